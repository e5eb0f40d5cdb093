/- Contracts of the package net, at int. -/
import Derived.Test.YtbjipgignnaomaaNet0
import Derived.Test.YtbjipgignnaomaaNetD
import Derived.Test.YtbjipgignnaomaaIterD
import Derived.Test.YtbjipgignnaomaaEnum
import Derived.OwnWalkIn
import Derived.IntWalk
namespace Go.Proofs.Ytbjipgignnaomaa
open Go.RowKit Go.Shelf Go.XL
open Go.Maps (Keyed)
set_option linter.unusedVariables false
set_option linter.unusedSimpArgs false
attribute [local go_sem] Oper.semAt_some

abbrev NtI := NetAt Try.prog 62 3 60 .i64

set_option maxHeartbeats 2000000 in
theorem pairI {p b1 b2 : Nat} {s : Int} {c : Nat} {L : Int → Int → List Int} {C : Int → Int → Bool} {V : Int → Int → Value} {w : World} (a b : Int) (h : NtI w p b1 b2 s c L C V) :
    Calls Try.prog 23 #[.pointer (some ⟨p, 0, none⟩), .int .i64 a, .int .i64 b] w fun e w' => e = .returned (.bool (isPair s a b)) ∧ w = w' := by
  have hc := h.c0
  clear h
  have hres : ∀ x : Bool, (x = isPair s a b) → Hid (x = isPair s a b) := fun x h => h
  by_cases h1 : 0 ≤ a
  · by_cases h2 : a < s
    · by_cases h3 : 0 ≤ b
      · by_cases h4 : b < s
        · by_cases h5 : a = b
          · have H := hres false (by simp [isPair, h5])
            clear hres
            have h6 : (a == b) = true := by simp [h5]
            have h7 : (a != b) = false := by simp [h5]
            subst h5
            go_enter Try.func23, Try.ntmps23
            go_wp2
            go_ret
            rw [← H.out]
            exact ⟨rfl, rfl⟩
          · have H := hres true (by simp [isPair, h1, h2, h3, h4, h5])
            clear hres
            have h6 : (a == b) = false := by simp [h5]
            have h7 : (a != b) = true := by simp [h5]
            go_enter Try.func23, Try.ntmps23
            go_wp2
            go_ret
            rw [← H.out]
            exact ⟨rfl, rfl⟩
        · have H := hres false (by simp [isPair]; intros; omega)
          clear hres
          have h6 : decide (b < s) = false := decide_eq_false h4
          go_enter Try.func23, Try.ntmps23
          go_wp2
          go_ret
          rw [← H.out]
          exact ⟨rfl, rfl⟩
      · have H := hres false (by simp [isPair]; intros; omega)
        clear hres
        have h6 : decide (0 ≤ b) = false := decide_eq_false h3
        go_enter Try.func23, Try.ntmps23
        go_wp2
        go_ret
        rw [← H.out]
        exact ⟨rfl, rfl⟩
    · have H := hres false (by simp [isPair]; intros; omega)
      clear hres
      have h6 : decide (a < s) = false := decide_eq_false h2
      go_enter Try.func23, Try.ntmps23
      go_wp2
      go_ret
      rw [← H.out]
      exact ⟨rfl, rfl⟩
  · have H := hres false (by simp [isPair]; intros; omega)
    clear hres
    have h6 : decide (0 ≤ a) = false := decide_eq_false h1
    go_enter Try.func23, Try.ntmps23
    go_wp2
    go_ret
    rw [← H.out]
    exact ⟨rfl, rfl⟩

theorem netNewI_bad (s : Int) (w : World) (hs : s < 1 ∨ 8 < s) :
    Calls Try.prog 7 #[.int .i64 s] w fun e w' => e = .returned (.tuple #[.pointer none, .int .i64 1]) ∧ w = w' := by
  by_cases h1 : s < 1
  · go_enter Try.func7, Try.ntmps7
    go_wp2
    go_ret2
    exact ⟨rfl, rfl⟩
  · have h8 : 8 < s := by omega
    go_enter Try.func7, Try.ntmps7
    go_wp2
    go_ret2
    exact ⟨rfl, rfl⟩

theorem netNewI (s : Int) (w : World) (h1 : 1 ≤ s) (h8 : s ≤ 8) :
    Calls Try.prog 7 #[.int .i64 s] w fun e w' => ∃ p b1 b2, e = .returned (.tuple #[.pointer (some ⟨p, 0, none⟩), .int .i64 0]) ∧ NtI w' p b1 b2 s 0 (fun _ _ => []) (fun _ _ => false) (fun _ _ => .slice none 0 0) ∧ Fr no w w' ∧ ∀ g, NetOwn p b1 b2 (fun _ _ => .slice none 0 0) g → w.heap.size ≤ g := by
  have hmm := @run_makeMap Try.prog
  go_enter Try.func7, Try.ntmps7
  go_wp2
  go_ret2
  refine ⟨w.heap.size + 1 + 1, w.heap.size, w.heap.size + 1, rfl, ⟨?_, ?_, ?_, ⟨fun a b => by simpa using Sl.nil _ _ _, fun a b a' b' g h => by simp [Value.ownBlock] at h, fun a b g h => by simp [Value.ownBlock] at h⟩, ⟨by omega, by omega, by omega⟩, h1, h8⟩, (((Fr.refl no w).alloc _).alloc _).alloc _, ?_⟩
  · have := World.alloc_heap_new ((w.alloc (.map #[] 0)).alloc (.map #[] 0)) (.cells #[.int .i64 s, .map (some w.heap.size), .map (some (w.heap.size + 1))] 60)
    simpa using this
  · rw [onKey_const]
    have := (MapAt.made w Try.prog 62 (.slice none 0 0)).fr (((Fr.refl no _).alloc (.map #[] 0)).alloc (.cells #[.int .i64 s, .map (some w.heap.size), .map (some (w.heap.size + 1))] 60)) (fun f => f)
    exact this
  · rw [onKey_const]
    have := (MapAt.made (w.alloc (.map #[] 0)) Try.prog 62 (.bool false)).fr ((Fr.refl no _).alloc (.cells #[.int .i64 s, .map (some w.heap.size), .map (some (w.heap.size + 1))] 60)) (fun f => f)
    simpa using this
  · rintro g (rfl | rfl | rfl | ⟨a, b, h⟩)
    · omega
    · omega
    · omega
    · simp [Value.ownBlock] at h

theorem laidOutI : laidOutB Try.prog = true := by kernel_rfl
theorem wayKI : Keyed Try.prog 62 := Keyed.of_law (deep_law_laid (m := Try.prog.types.size + 1) laidOutI (of_decide_eq_true (by kernel_rfl)) (of_decide_eq_true (by kernel_rfl)) (by kernel_rfl) (by kernel_rfl))
theorem wayKeyI {a b : Int} (ha : -9223372036854775808 ≤ a ∧ a ≤ 9223372036854775807) (hb : -9223372036854775808 ≤ b ∧ b ≤ 9223372036854775807) : ∃ kl, keyOf Try.prog 62 (wkey a b) = some kl :=
  key2 Try.underlying62 Try.underlying3 rfl rfl rfl rfl (by decide) (by decide) (by kernel_rfl) (by kernel_rfl) (by kernel_rfl) ha hb (of_decide_eq_true (by kernel_rfl))

set_option maxHeartbeats 2000000 in
theorem sendI {p b1 b2 : Nat} {s : Int} {c : Nat} {L : Int → Int → List Int} {C : Int → Int → Bool} {V : Int → Int → Value} {w : World} (a b x : Int) (h : NtI w p b1 b2 s c L C V) (ha : -9223372036854775808 ≤ a ∧ a ≤ 9223372036854775807) (hb : -9223372036854775808 ≤ b ∧ b ≤ 9223372036854775807) (hc : c < 1000000) :
    Calls Try.prog 8 #[.pointer (some ⟨p, 0, none⟩), .int .i64 a, .int .i64 b, .int .i64 x] w fun e w' => e = .returned (.int .i64 (sendR s L C a b)) ∧ ∃ V', NtI w' p b1 b2 s (c + 1) (sendL s L C a b x) C V' ∧ Fr (NetOwn p b1 b2 V) w w' ∧ ∀ g, NetOwn p b1 b2 V' g → NetOwn p b1 b2 V g ∨ w.heap.size ≤ g := by
  obtain ⟨kl, hkl⟩ := wayKeyI ha hb
  have hfa : Fr no w (w.alloc (.cells #[.int .i64 a, .int .i64 b] 62)) := (Fr.refl no w).alloc _
  have H1 := Lib.hid (h.fr0 hfa)
  have H := Lib.hid h
  have Hkl := Lib.hid hkl
  clear h hkl ha hb
  have hres : ∀ r : Int, sendR s L C a b = r → Hid (sendR s L C a b = r) := fun r h => h
  go_enter Try.func8, Try.ntmps8
  go_wp2_with fail
  refine (pairI a b H1.out).mono ?_
  rintro e w' ⟨rfl, rfl⟩
  cases hp : isPair s a b
  · have R := hres 1 (by simp [sendR, hp])
    clear hres hp
    go_wp2
    go_ret
    rw [R.out, sendL, R.out, if_neg (by decide)]
    exact ⟨rfl, V, H1.out.mono (by omega), hfa.mono (fun _ _ f => f.elim), fun g hg => .inl hg⟩
  · have look : Hid (∀ W : World, NtI W p b1 b2 s c L C V → (∀ n, (Instr.lookup 58 (.map (some b2)) (wkey a b) false).run Try.prog (W.drewN n) = .ok (.bool (C a b)) (W.drewN n)) ∧
        ∀ n, (Instr.lookup 57 (.map (some b1)) (wkey a b) false).run Try.prog (W.drewN n) = .ok (V a b) (W.drewN n)) := Lib.hid (fun W hW => ⟨fun n => by
      have := (hW.cut.fr ((Fr.refl no _).drewN n) (fun f => f)).look wayKI Try.underlying58 (by kernel_rfl) Hkl.out
      rwa [onKey_key] at this, fun n => by
      have := (hW.ways.fr ((Fr.refl no _).drewN n) (fun f => f)).look wayKI Try.underlying57 (by kernel_rfl) Hkl.out
      rwa [onKey_key] at this⟩)
    have HP := Lib.hid hp
    clear hp
    have hl2 := (look.out _ H1.out).1
    have c2 := H1.out.c2
    have row := (H1.out.v.row a b).cap
    obtain ⟨ao, cap, hV, hcap, hmx⟩ := row
    have HV := Lib.hid hV
    clear hV
    cases hC : C a b
    · have HC := Lib.hid hC
      rw [hC] at hl2
      clear hC
      go_wp2_with fail
      go_quiet (fail)
      have H2 := Lib.hid (H1.out.fr0 ((Fr.refl no _).drewN nq))
      have F2 := Lib.hid (hfa.drewN nq)
      have x0 : ((w.alloc (.cells #[.int .i64 a, .int .i64 b] 62)).drewN nq).cell? ⟨w.heap.size, 0, none⟩ = some (.int .i64 a) := cell_of_block (World.alloc_heap_new w _) rfl
      have x1 : ((w.alloc (.cells #[.int .i64 a, .int .i64 b] 62)).drewN nq).cell? ⟨w.heap.size, 1, none⟩ = some (.int .i64 b) := cell_of_block (World.alloc_heap_new w _) rfl
      clear hl2 c2 H1 hfa
      generalize (w.alloc (.cells #[.int .i64 a, .int .i64 b] 62)).drewN nq = w2 at *
      have hl1 := (look.out _ H2.out).2
      rw [HV.out] at hl1
      have c1 := H2.out.c1
      generalize hn : (L a b).length = n at *
      have Hn := Lib.hid hn
      clear hn
      by_cases h64 : 64 ≤ n
      · have R := hres 6 (by rw [sendR, if_neg (by simp [HP.out]), if_neg (by simp [HC.out]), if_pos (by rw [Hn.out]; exact h64)])
        clear hres
        go_wp2_with fail
        go_quiet (fail)
        go_wp2
        go_ret
        rw [R.out, sendL, R.out, if_neg (by decide)]
        exact ⟨rfl, V, (H2.out.mono (by omega)).fr0 ((Fr.refl no _).drewN _), (F2.out.mono (fun _ _ f => f.elim)).drewN _, fun g hg => .inl hg⟩
      · have R := hres 0 (by rw [sendR, if_neg (by simp [HP.out]), if_neg (by simp [HC.out]), if_neg (by rw [Hn.out]; exact h64)])
        clear hres
        go_wp2_with fail
        go_quiet (fail)
        have H3 := Lib.hid (H2.out.fr0 ((Fr.refl no _).drewN nq))
        have F3 := Lib.hid (F2.out.drewN nq)
        have y0 : (w2.drewN nq).cell? ⟨w.heap.size, 0, none⟩ = some (.int .i64 a) := x0
        have y1 : (w2.drewN nq).cell? ⟨w.heap.size, 1, none⟩ = some (.int .i64 b) := x1
        clear x0 x1 hl1 c1 H2 F2
        generalize w2.drewN nq = w3 at *
        have hl1 : (Instr.lookup 57 (.map (some b1)) (wkey a b) false).run Try.prog w3.drew = .ok (V a b) w3.drew := (look.out _ H3.out).2 1
        rw [HV.out] at hl1
        have c1 := H3.out.c1
        have H4 := Lib.hid (H3.out.fr0 ((Fr.refl no _).drewN 1))
        have F4 := Lib.hid (F3.out.drewN 1)
        clear H3 F3
        go_wp2_with fail
        have hrow := H4.out.v.row a b
        rw [HV.out, Hn.out] at hrow
        obtain ⟨i0, hi, hz0, hz1, hz2⟩ := info_parts (show (Try.prog.info? 3).map (fun i => (i.zero, i.size, i.bytes)) = some (some (.int .i64 0), 1, 8) by kernel_rfl)
        obtain ⟨v', w5, hrun, r1, r2, r3, r4⟩ := run_append_one (P := Try.prog) (w3.drewN 1) 28 28 3 i0 (.int .i64 0) 8 Try.underlying28 hi hz0 hz1 hz2 rfl _ n _ hrow (.int .i64 x) rfl (by unfold maxLen; omega) (by omega) 3
        obtain ⟨ao5, cap5, rfl, _, _⟩ := r1.cap
        obtain ⟨w6, hput, hN6, hf6⟩ := H4.out.lay wayKI (e := 28) Try.underlying57 Hkl.out hc (r2.mono (fun _ _ h => by rw [HV.out]; exact h)) (v := .slice ao5 (n + 1) cap5) (l := L a b ++ [x]) (by simpa [Hn.out] using r1) (by rw [HV.out]; exact r3)
        have Hfin : Hid (∃ V', NtI w6 p b1 b2 s (c + 1) (sendL s L C a b x) C V' ∧ Fr (NetOwn p b1 b2 V) w w6 ∧ ∀ g, NetOwn p b1 b2 V' g → NetOwn p b1 b2 V g ∨ w.heap.size ≤ g) := by
          refine Lib.hid ⟨upd2 V a b (.slice ao5 (n + 1) cap5), ?_, ((F4.out.mono (fun _ _ f => f.elim)).trans' (r2.mono (fun k _ h => .inr (.inr (.inr ⟨a, b, by rw [HV.out]; exact h⟩))))).trans' (hf6.mono (fun k _ h => .inr (.inl h))), own_upd (V := V) (a := a) (b := b) ?_⟩
          · rw [sendL, R.out, if_pos rfl]; exact hN6
          · rcases r3 with e | e
            · exact .inl (by rw [e, HV.out])
            · exact .inr (fun g hg => Nat.le_trans F4.out.size (e g hg))
        have lookW : Hid (∀ W : World, MapAt W Try.prog 62 (.slice none 0 0) b1 c (onKey (.slice none 0 0) V) → (Instr.lookup 57 (.map (some b1)) (wkey a b) false).run Try.prog W = .ok (.slice ao n cap) W) := Lib.hid (fun W hW => by
          have := hW.look wayKI Try.underlying57 (by kernel_rfl) Hkl.out
          rwa [onKey_key, HV.out] at this)
        have S4 : Hid (∀ o, (w3.drew.alloc o).cell? ⟨p, 1, none⟩ = some (.map (some b1)) ∧ (w3.drew.alloc o).cell? ⟨w.heap.size, 0, none⟩ = some (.int .i64 a) ∧ (w3.drew.alloc o).cell? ⟨w.heap.size, 1, none⟩ = some (.int .i64 b) ∧ (Instr.lookup 57 (.map (some b1)) (wkey a b) false).run Try.prog (w3.drew.alloc o) = .ok (.slice ao n cap) (w3.drew.alloc o)) := Lib.hid (fun o =>
          have hf : Fr no w3.drew (w3.drew.alloc o) := (Fr.refl no _).alloc o
          ⟨hf.cell (p := ⟨p, 1, none⟩) c1 (fun f => f), hf.cell (p := ⟨w.heap.size, 0, none⟩) y0 (fun f => f), hf.cell (p := ⟨w.heap.size, 1, none⟩) y1 (fun f => f), lookW.out _ (H4.out.ways.fr hf (fun f => f))⟩)
        have hnew : ∀ j, Value.ownBlock (.slice ao n cap) = some j → j ≠ p ∧ j ≠ b1 ∧ j ≠ w.heap.size := fun j hj => by
          have h1 := H.out.v.far a b j (by rw [HV.out]; exact hj)
          have h2 := (H.out.v.row a b).lt j (by rw [HV.out]; exact hj)
          exact ⟨h1.1, h1.2.1, by omega⟩
        have S5 : Hid (w5.cell? ⟨p, 1, none⟩ = some (.map (some b1)) ∧ w5.cell? ⟨w.heap.size, 0, none⟩ = some (.int .i64 a) ∧ w5.cell? ⟨w.heap.size, 1, none⟩ = some (.int .i64 b) ∧ (Instr.lookup 57 (.map (some b1)) (wkey a b) false).run Try.prog w5 = .ok (.slice ao n cap) w5) := Lib.hid
          ⟨r2.cell (p := ⟨p, 1, none⟩) c1 (fun e => (hnew _ e).1 rfl), r2.cell (p := ⟨w.heap.size, 0, none⟩) y0 (fun e => (hnew _ e).2.2 rfl), r2.cell (p := ⟨w.heap.size, 1, none⟩) y1 (fun e => (hnew _ e).2.2 rfl), lookW.out _ (H4.out.ways.fr r2 (fun e => (hnew _ e).2.1 rfl))⟩
        clear r1 r2 r3 r4 hi hz0 hz1 hz2 hrow hN6 hf6 hnew lookW
        refine wp_held (fun w' => w'.cell? ⟨p, 1, none⟩ = some (.map (some b1)) ∧ w'.cell? ⟨w.heap.size, 0, none⟩ = some (.int .i64 a) ∧ w'.cell? ⟨w.heap.size, 1, none⟩ = some (.int .i64 b) ∧ (Instr.lookup 57 (.map (some b1)) (wkey a b) false).run Try.prog w' = .ok (.slice ao n cap) w') (by kernel_rfl) ?_ (fun hHeld => ?_)
        · exact ⟨c1, y0, y1, hl1⟩
        refine held_take (v := ?_) 0 rfl (by kernel_rfl) (.inl ⟨by rfl, ?_⟩) hHeld ?_
        rotate_left
        · intro w hSw; (try dsimp only at hSw); first | (go_simp; done) | (go_simp; with_reducible rfl)
        try simp only [Act.put, List.setIfInBounds_toArray, List.set_cons_zero, List.set_cons_succ]
        refine held_take (v := ?_) 1 rfl (by kernel_rfl) (.inl ⟨by rfl, ?_⟩) hHeld ?_
        rotate_left
        · intro w hSw; (try dsimp only at hSw); first | (go_simp; done) | (go_simp; with_reducible rfl)
        try simp only [Act.put, List.setIfInBounds_toArray, List.set_cons_zero, List.set_cons_succ]
        refine held_take (v := ?_) 2 rfl (by kernel_rfl) (.inl ⟨by rfl, ?_⟩) hHeld ?_
        rotate_left
        · intro w hSw; (try dsimp only at hSw); first | (go_simp; done) | (go_simp; with_reducible rfl)
        try simp only [Act.put, List.setIfInBounds_toArray, List.set_cons_zero, List.set_cons_succ]
        refine held_take (v := ?_) 3 rfl (by kernel_rfl) (.inl ⟨by rfl, ?_⟩) hHeld ?_
        rotate_left
        · intro w hSw; (try dsimp only at hSw); first | (go_simp; done) | (go_simp; with_reducible rfl)
        try simp only [Act.put, List.setIfInBounds_toArray, List.set_cons_zero, List.set_cons_succ]
        refine held_take (v := ?_) 4 rfl (by kernel_rfl) (.inl ⟨by rfl, ?_⟩) hHeld ?_
        rotate_left
        · intro w hSw; (try dsimp only at hSw); first | (go_simp; done) | (go_simp; with_reducible rfl)
        try simp only [Act.put, List.setIfInBounds_toArray, List.set_cons_zero, List.set_cons_succ]
        refine held_take (v := ?_) 5 rfl (by kernel_rfl) (.inl ⟨by rfl, ?_⟩) hHeld ?_
        rotate_left
        · intro w hSw; (try dsimp only at hSw); first | (go_simp; done) | (go_simp; with_reducible rfl)
        try simp only [Act.put, List.setIfInBounds_toArray, List.set_cons_zero, List.set_cons_succ]
        refine held_take (v := ?_) 6 rfl (by kernel_rfl) (.inl ⟨by rfl, ?_⟩) hHeld ?_
        rotate_left
        · intro w hSw; (try dsimp only at hSw); first | (go_simp; done) | (go_simp; with_reducible rfl)
        try simp only [Act.put, List.setIfInBounds_toArray, List.set_cons_zero, List.set_cons_succ]
        refine held_take (v := ?_) 7 rfl (by kernel_rfl) (.inl ⟨by rfl, ?_⟩) hHeld ?_
        rotate_left
        · intro w hSw; (try dsimp only at hSw); first | (go_simp; done) | (go_simp; with_reducible rfl)
        try simp only [Act.put, List.setIfInBounds_toArray, List.set_cons_zero, List.set_cons_succ]
        refine held_take (v := ?_) 8 rfl (by kernel_rfl) (.inl ⟨by rfl, ?_⟩) hHeld ?_
        rotate_left
        · intro w hSw; (try dsimp only at hSw); first | (go_simp; done) | (go_simp; with_reducible rfl)
        try simp only [Act.put, List.setIfInBounds_toArray, List.set_cons_zero, List.set_cons_succ]
        refine held_take (v := ?_) 9 rfl (by kernel_rfl) (.inl ⟨by rfl, ?_⟩) hHeld ?_
        rotate_left
        · intro w hSw; (try dsimp only at hSw); first | (go_simp; done) | (go_simp; with_reducible rfl)
        try simp only [Act.put, List.setIfInBounds_toArray, List.set_cons_zero, List.set_cons_succ]
        refine held_take (v := ?_) 10 rfl (by kernel_rfl) (.inl ⟨by rfl, ?_⟩) hHeld ?_
        rotate_left
        · intro w hSw; (try dsimp only at hSw); first | (go_simp; done) | (go_simp; with_reducible rfl)
        try simp only [Act.put, List.setIfInBounds_toArray, List.set_cons_zero, List.set_cons_succ]
        refine held_take (v := ?_) 11 rfl (by kernel_rfl) (.inl ⟨by rfl, ?_⟩) hHeld ?_
        rotate_left
        · intro w hSw; (try dsimp only at hSw); first | (go_simp; done) | (go_simp; with_reducible rfl)
        try simp only [Act.put, List.setIfInBounds_toArray, List.set_cons_zero, List.set_cons_succ]
        refine held_call 12 rfl (by kernel_rfl) (fun K hK => ?_)
        go_simp
        skip
        refine hK.out _ _ ?_ (fun hHeld' => ?_)
        · first | exact S4.out _ | exact S5.out
        clear hK K hHeld
        have hHeld := hHeld'
        clear hHeld'
        try simp only [Act.put, List.setIfInBounds_toArray, List.set_cons_zero, List.set_cons_succ]
        refine held_call 13 rfl (by kernel_rfl) (fun K hK => ?_)
        rw [if_pos (by rfl)]
        refine wp_append rfl rfl rfl hrun ?_
        refine hK.out _ _ ?_ (fun hHeld' => ?_)
        · first | exact S4.out _ | exact S5.out
        clear hK K hHeld
        have hHeld := hHeld'
        clear hHeld'
        try simp only [Act.put, List.setIfInBounds_toArray, List.set_cons_zero, List.set_cons_succ]
        refine held_last 14 rfl (by kernel_rfl) (by kernel_rfl) (fun K hK => ?_)
        rw [if_pos (by rfl)]
        refine wp_mapUpdate rfl rfl rfl rfl hput ?_
        refine hK.out _ _ ?_
        clear hK K
        try simp only [Act.put, List.setIfInBounds_toArray, List.set_cons_zero, List.set_cons_succ]
        refine held_done (by kernel_rfl) ?_
        try clear hHeld
        clear y0 y1 hl1 c1 hrun hput
        go_wp2
        go_ret
        exact ⟨R.out ▸ rfl, Hfin.out⟩
    · have R := hres 11 (by rw [sendR, if_neg (by simp [HP.out]), if_pos hC])
      rw [hC] at hl2
      clear hres hC
      go_wp2_with fail
      go_quiet (fail)
      go_wp2
      go_ret
      rw [R.out, sendL, R.out, if_neg (by decide)]
      exact ⟨rfl, V, (H1.out.mono (by omega)).fr0 ((Fr.refl no _).drewN _), (hfa.mono (fun _ _ f => f.elim)).drewN _, fun g hg => .inl hg⟩

/-- what Take lays -/
theorem takeLayI {p b1 b2 : Nat} {s : Int} {c : Nat} {L : Int → Int → List Int} {C : Int → Int → Bool} {V : Int → Int → Value} {w w5 : World} (a b x : Int) {kl : Lit} {pp g off cap : Nat} (hc : c < 1000000) (h : NtI w p b1 b2 s c L C V) (hk : keyOf Try.prog 62 (wkey a b) = some kl) (hpp : pp < (L a b).length)
    (hf : Fr no w w5) (hs : Sl w5 3 1 (.slice (some ⟨g, off, none⟩) (pp + ((L a b).length - (pp + 1))) cap) (pp + ((L a b).length - (pp + 1))) (((L a b).map (Value.int .i64)).take (pp * 1) ++ ((L a b).map (Value.int .i64)).drop ((pp + 1) * 1))) (hg : w.heap.size ≤ g) :
    ∃ w6, (Instr.mapUpdate 57 (.map (some b1)) (wkey a b) (.slice (some ⟨g, off, none⟩) (pp + ((L a b).length - (pp + 1))) cap)).run Try.prog w5 = .ok () w6 ∧ ∃ V', NtI w6 p b1 b2 s (c + 1) (upd2 L a b ((L a b).eraseIdx pp)) C V' ∧ Fr (NetOwn p b1 b2 V) w w6 ∧ ∀ g, NetOwn p b1 b2 V' g → NetOwn p b1 b2 V g ∨ w.heap.size ≤ g := by
  have hl : ((L a b).eraseIdx pp).length = pp + ((L a b).length - (pp + 1)) := by rw [List.length_eraseIdx_of_lt hpp]; omega
  have hfr : ∀ g', Value.ownBlock (.slice (some ⟨g, off, none⟩) (pp + ((L a b).length - (pp + 1))) cap) = some g' → w.heap.size ≤ g' := fun g' hg' => by simp [Value.ownBlock] at hg'; omega
  obtain ⟨w6, h1, h2, h3⟩ := h.lay wayKI (e := 28) Try.underlying57 hk hc (hf.mono (fun _ _ f => f.elim)) (v := .slice (some ⟨g, off, none⟩) (pp + ((L a b).length - (pp + 1))) cap) (l := (L a b).eraseIdx pp)
    (by rw [hl, List.eraseIdx_eq_take_drop_succ, List.map_append, List.map_take, List.map_drop]; simpa using hs) (.inr hfr)
  exact ⟨w6, h1, _, h2, (hf.mono (fun _ _ f => f.elim)).trans' (h3.mono (fun k _ e => .inr (.inl e))), own_upd (.inr hfr)⟩

set_option maxHeartbeats 2000000 in
theorem takeNoI {p b1 b2 : Nat} {s : Int} {c : Nat} {L : Int → Int → List Int} {C : Int → Int → Bool} {V : Int → Int → Value} {w : World} (a b k : Int) (h : NtI w p b1 b2 s c L C V) (ha : -9223372036854775808 ≤ a ∧ a ≤ 9223372036854775807) (hb : -9223372036854775808 ≤ b ∧ b ≤ 9223372036854775807) (hno : L a b = [] ∨ C a b = true) :
    Calls Try.prog 9 #[.pointer (some ⟨p, 0, none⟩), .int .i64 a, .int .i64 b, .int .i64 k] w fun e w' => e = .returned (.tuple #[.int .i64 0, .bool false]) ∧ Fr no w w' := by
  obtain ⟨kl, hkl⟩ := wayKeyI ha hb
  have hfa : Fr no w (w.alloc (.cells #[.int .i64 a, .int .i64 b] 62)) := (Fr.refl no w).alloc _
  have H1 := Lib.hid (h.fr0 hfa)
  have Hkl := Lib.hid hkl
  clear h hkl ha hb
  have look : Hid (∀ W : World, NtI W p b1 b2 s c L C V → (∀ n, (Instr.lookup 58 (.map (some b2)) (wkey a b) false).run Try.prog (W.drewN n) = .ok (.bool (C a b)) (W.drewN n)) ∧
      ∀ n, (Instr.lookup 57 (.map (some b1)) (wkey a b) false).run Try.prog (W.drewN n) = .ok (V a b) (W.drewN n)) := Lib.hid (fun W hW => ⟨fun n => by
    have := (hW.cut.fr ((Fr.refl no _).drewN n) (fun f => f)).look wayKI Try.underlying58 (by kernel_rfl) Hkl.out
    rwa [onKey_key] at this, fun n => by
    have := (hW.ways.fr ((Fr.refl no _).drewN n) (fun f => f)).look wayKI Try.underlying57 (by kernel_rfl) Hkl.out
    rwa [onKey_key] at this⟩)
  have hl1 := (look.out _ H1.out).2
  have c1 := H1.out.c1
  obtain ⟨ao, cap, hV, hcap, hmx⟩ := (H1.out.v.row a b).cap
  rw [hV] at hl1
  clear hV
  go_enter Try.func9, Try.ntmps9
  go_wp2_with fail
  go_quiet (fail)
  have H2 := Lib.hid (H1.out.fr0 ((Fr.refl no _).drewN nq))
  have F2 := Lib.hid (hfa.drewN nq)
  have x0 : ((w.alloc (.cells #[.int .i64 a, .int .i64 b] 62)).drewN nq).cell? ⟨w.heap.size, 0, none⟩ = some (.int .i64 a) := cell_of_block (World.alloc_heap_new w _) rfl
  have x1 : ((w.alloc (.cells #[.int .i64 a, .int .i64 b] 62)).drewN nq).cell? ⟨w.heap.size, 1, none⟩ = some (.int .i64 b) := cell_of_block (World.alloc_heap_new w _) rfl
  clear hl1 c1 H1 hfa
  generalize (w.alloc (.cells #[.int .i64 a, .int .i64 b] 62)).drewN nq = w2 at *
  by_cases h0 : (L a b).length = 0
  · rw [h0]
    go_wp2_with fail
    go_quiet (fail)
    go_wp2
    go_ret2
    exact ⟨rfl, F2.out.drewN _⟩
  · have hC : C a b = true := by
      rcases hno with e | e
      · rw [e] at h0; simp at h0
      · exact e
    have hl2 := (look.out _ H2.out).1
    rw [hC] at hl2
    have c2 := H2.out.c2
    clear hC hno
    generalize (L a b).length = n at *
    have hd : ((n : Int) == 0) = false := by simp; omega
    go_wp2_with fail
    go_quiet (fail)
    go_wp2
    go_ret2
    exact ⟨rfl, F2.out.drewN _⟩

set_option maxHeartbeats 2000000 in
theorem takeYesI {p b1 b2 : Nat} {s : Int} {c : Nat} {L : Int → Int → List Int} {C : Int → Int → Bool} {V : Int → Int → Value} {w : World} (a b k : Int) (pp : Nat) (x : Int) (h : NtI w p b1 b2 s c L C V) (ha : -9223372036854775808 ≤ a ∧ a ≤ 9223372036854775807) (hb : -9223372036854775808 ≤ b ∧ b ≤ 9223372036854775807) (hc : c < 1000000)
    (hC : C a b = false) (hpp : (max k 0) % ((L a b).length : Int) = pp) (hx : (L a b)[pp]? = some x) (hlen : (L a b).length ≤ 1000) :
    Calls Try.prog 9 #[.pointer (some ⟨p, 0, none⟩), .int .i64 a, .int .i64 b, .int .i64 k] w fun e w' => e = .returned (.tuple #[.int .i64 x, .bool true]) ∧ ∃ V', NtI w' p b1 b2 s (c + 1) (upd2 L a b ((L a b).eraseIdx pp)) C V' ∧ Fr (NetOwn p b1 b2 V) w w' ∧ ∀ g, NetOwn p b1 b2 V' g → NetOwn p b1 b2 V g ∨ w.heap.size ≤ g := by
  obtain ⟨kl, hkl⟩ := wayKeyI ha hb
  have hfa : Fr no w (w.alloc (.cells #[.int .i64 a, .int .i64 b] 62)) := (Fr.refl no w).alloc _
  have H1 := Lib.hid (h.fr0 hfa)
  have Hkl := Lib.hid hkl
  have HC := Lib.hid hC
  have Hx := Lib.hid hx
  have hpl := (List.getElem?_eq_some_iff.1 hx).1
  clear h hkl ha hb hC hx
  have look : Hid (∀ W : World, NtI W p b1 b2 s c L C V → (∀ n, (Instr.lookup 58 (.map (some b2)) (wkey a b) false).run Try.prog (W.drewN n) = .ok (.bool (C a b)) (W.drewN n)) ∧
      ∀ n, (Instr.lookup 57 (.map (some b1)) (wkey a b) false).run Try.prog (W.drewN n) = .ok (V a b) (W.drewN n)) := Lib.hid (fun W hW => ⟨fun n => by
    have := (hW.cut.fr ((Fr.refl no _).drewN n) (fun f => f)).look wayKI Try.underlying58 (by kernel_rfl) Hkl.out
    rwa [onKey_key] at this, fun n => by
    have := (hW.ways.fr ((Fr.refl no _).drewN n) (fun f => f)).look wayKI Try.underlying57 (by kernel_rfl) Hkl.out
    rwa [onKey_key] at this⟩)
  have hl1 := (look.out _ H1.out).2
  have c1 := H1.out.c1
  obtain ⟨g, off, cap, ds, hV, hcap, hmx, hgb, _, hgc⟩ := (H1.out.v.row a b).form (by omega)
  have HV := Lib.hid hV
  rw [hV] at hl1
  clear hV
  go_enter Try.func9, Try.ntmps9
  go_wp2_with fail
  go_quiet (fail)
  have H2 := Lib.hid (H1.out.fr0 ((Fr.refl no _).drewN nq))
  have F2 := Lib.hid (hfa.drewN nq)
  have x0 : ((w.alloc (.cells #[.int .i64 a, .int .i64 b] 62)).drewN nq).cell? ⟨w.heap.size, 0, none⟩ = some (.int .i64 a) := cell_of_block (World.alloc_heap_new w _) rfl
  have x1 : ((w.alloc (.cells #[.int .i64 a, .int .i64 b] 62)).drewN nq).cell? ⟨w.heap.size, 1, none⟩ = some (.int .i64 b) := cell_of_block (World.alloc_heap_new w _) rfl
  have y0 : ((w.alloc (.cells #[.int .i64 a, .int .i64 b] 62)).drewN nq).cell? ⟨g, off + pp, none⟩ = some (.int .i64 x) := cell_of_block (w := (w.alloc (.cells #[.int .i64 a, .int .i64 b] 62)).drewN nq) hgb (hgc pp _ (by rw [List.getElem?_map, Hx.out]; rfl))
  clear hl1 c1 H1 hfa hgb hgc
  generalize (w.alloc (.cells #[.int .i64 a, .int .i64 b] 62)).drewN nq = w2 at *
  have hl2 := (look.out _ H2.out).1
  rw [HC.out] at hl2
  have c2 := H2.out.c2
  generalize hn : (L a b).length = n at *
  have Hn := Lib.hid hn
  clear hn
  have hd : ((n : Int) == 0) = false := by simp; omega
  go_wp2_with fail
  go_quiet (fail)
  have H3 := Lib.hid (H2.out.fr0 ((Fr.refl no _).drewN nq))
  have F3 := Lib.hid (F2.out.drewN nq)
  have z0 : (w2.drewN nq).cell? ⟨w.heap.size, 0, none⟩ = some (.int .i64 a) := x0
  have z1 : (w2.drewN nq).cell? ⟨w.heap.size, 1, none⟩ = some (.int .i64 b) := x1
  have u0 : (w2.drewN nq).cell? ⟨g, off + pp, none⟩ = some (.int .i64 x) := y0
  clear hl2 c2 x0 x1 y0 H2 F2
  generalize w2.drewN nq = w3 at *
  go_upto_region 6 with (fail)
  go_cut [3] (fun v wx => v = .int .i64 pp ∧ Hid (w3 = wx))
  case first =>
    by_cases hk : 0 ≤ k
    · rw [Int.max_eq_left hk] at hpp
      have hpt : k.tmod (n : Int) = pp := by rw [Int.tmod_eq_emod_of_nonneg hk]; exact hpp
      go_wp2
      go_meet
      exact ⟨rfl, Lib.hid rfl⟩
    · rw [Int.max_eq_right (by omega)] at hpp
      have h0 : (0 : Int) = pp := by rw [← hpp]; simp
      have H0 := Lib.hid h0
      clear h0 hpp
      go_wp2
      go_meet
      exact ⟨by rw [← H0.out], Lib.hid rfl⟩
  case rest =>
  obtain ⟨rfl, hW⟩ := hcut
  have hW := hW.out
  subst hW
  clear hpp
  go_wp2_with fail
  have hw1 : IntKind.i64.wrap ((pp : Int) + 1) = ((pp + 1 : Nat) : Int) := by rw [IntWalk.i64_in _ (by omega)]; omega
  have hrow := H3.out.v.row a b
  rw [HV.out, Hn.out] at hrow
  have hdw : Fr no w3 w3.drew := (Fr.refl no _).drewN 1
  have Hcl := Lib.hid (clone_int (.slice (some ⟨g, off, none⟩) n cap) n _ w3.drew (hrow.rd.fr hdw (fun _ _ _ f => f)) (by simp [Value.oneCell']) (by omega))
  have c1 := H3.out.c1
  have H4 := Lib.hid (H3.out.fr0 hdw)
  have F4 := Lib.hid (F3.out.drewN 1)
  have q0 : p < w3.drew.heap.size := H4.out.lt p (.inl rfl)
  have q1 : w.heap.size < w3.drew.heap.size := World.block_lt_of_cell? w3.drew ⟨w.heap.size, 0, none⟩ z0
  clear hrow hdw u0
  refine wp_held (fun w' => w'.cell? ⟨p, 1, none⟩ = some (.map (some b1)) ∧ w'.cell? ⟨w.heap.size, 0, none⟩ = some (.int .i64 a) ∧ w'.cell? ⟨w.heap.size, 1, none⟩ = some (.int .i64 b)) (by kernel_rfl) ?_ (fun hHeld => ?_)
  · exact ⟨c1, z0, z1⟩
  refine held_take (v := ?_) 0 rfl (by kernel_rfl) (.inl ⟨by rfl, ?_⟩) hHeld ?_
  rotate_left
  · intro w hSw; (try dsimp only at hSw); first | (go_simp; done) | (go_simp; with_reducible rfl)
  try simp only [Act.put, List.setIfInBounds_toArray, List.set_cons_zero, List.set_cons_succ]
  refine held_take (v := ?_) 1 rfl (by kernel_rfl) (.inl ⟨by rfl, ?_⟩) hHeld ?_
  rotate_left
  · intro w hSw; (try dsimp only at hSw); first | (go_simp; done) | (go_simp; with_reducible rfl)
  try simp only [Act.put, List.setIfInBounds_toArray, List.set_cons_zero, List.set_cons_succ]
  refine held_take (v := ?_) 2 rfl (by kernel_rfl) (.inl ⟨by rfl, ?_⟩) hHeld ?_
  rotate_left
  · intro w hSw; (try dsimp only at hSw); first | (go_simp; done) | (go_simp; with_reducible rfl)
  try simp only [Act.put, List.setIfInBounds_toArray, List.set_cons_zero, List.set_cons_succ]
  refine held_take (v := ?_) 3 rfl (by kernel_rfl) (.inl ⟨by rfl, ?_⟩) hHeld ?_
  rotate_left
  · intro w hSw; (try dsimp only at hSw); first | (go_simp; done) | (go_simp; with_reducible rfl)
  try simp only [Act.put, List.setIfInBounds_toArray, List.set_cons_zero, List.set_cons_succ]
  refine held_take (v := ?_) 4 rfl (by kernel_rfl) (.inl ⟨by rfl, ?_⟩) hHeld ?_
  rotate_left
  · intro w hSw; (try dsimp only at hSw); first | (go_simp; done) | (go_simp; with_reducible rfl)
  try simp only [Act.put, List.setIfInBounds_toArray, List.set_cons_zero, List.set_cons_succ]
  refine held_take (v := ?_) 5 rfl (by kernel_rfl) (.inl ⟨by rfl, ?_⟩) hHeld ?_
  rotate_left
  · intro w hSw; (try dsimp only at hSw); first | (go_simp; done) | (go_simp; with_reducible rfl)
  try simp only [Act.put, List.setIfInBounds_toArray, List.set_cons_zero, List.set_cons_succ]
  refine held_take (v := ?_) 7 rfl (by kernel_rfl) (.inl ⟨by rfl, ?_⟩) hHeld ?_
  rotate_left
  · intro w hSw; (try dsimp only at hSw); first | (go_simp; done) | (go_simp; with_reducible rfl)
  try simp only [Act.put, List.setIfInBounds_toArray, List.set_cons_zero, List.set_cons_succ]
  refine held_take (v := ?_) 8 rfl (by kernel_rfl) (.inl ⟨by rfl, ?_⟩) hHeld ?_
  rotate_left
  · intro w hSw; (try dsimp only at hSw); first | (go_simp; done) | (go_simp; with_reducible rfl)
  try simp only [Act.put, List.setIfInBounds_toArray, List.set_cons_zero, List.set_cons_succ]
  refine held_take (v := (.int .i64 ((pp + 1 : Nat) : Int))) 9 rfl (by kernel_rfl) (.inl ⟨by rfl, ?_⟩) hHeld ?_
  · intro w hSw; (try dsimp only at hSw); go_simp
  try simp only [Act.put, List.setIfInBounds_toArray, List.set_cons_zero, List.set_cons_succ]
  refine held_call 6 rfl (by kernel_rfl) (fun K hK => ?_)
  go_simp
  go_at_call 25; refine (Hcl.out).mono ?_; rintro e w4 ⟨ao4, cap4, rfl, hO⟩; obtain ⟨g4, off4, cc4, he4, _, _, hg4, _, _⟩ := hO.form (by omega); cases he4; have HO := Lib.hid hO; have S4 := Lib.hid (And.intro (hO.fr.cell (p := ⟨p, 1, none⟩) c1 (fun f => f)) (And.intro (hO.fr.cell (p := ⟨w.heap.size, 0, none⟩) z0 (fun f => f)) (hO.fr.cell (p := ⟨w.heap.size, 1, none⟩) z1 (fun f => f)))); clear hO
  refine hK.out _ _ ?_ (fun hHeld' => ?_)
  · first | exact S4.out | exact S5.out
  clear hK K hHeld
  have hHeld := hHeld'
  clear hHeld'
  try simp only [Act.put, List.setIfInBounds_toArray, List.set_cons_zero, List.set_cons_succ]
  refine held_call 10 rfl (by kernel_rfl) (fun K hK => ?_)
  go_simp
  go_at_call 24; refine (delete_int g4 off4 n cap4 pp (pp + 1) _ w4 HO.out.sl (by simp [Value.oneCell']) (by omega) (by omega)).mono ?_; rintro e w5 ⟨rfl, hs5, hf5⟩; obtain ⟨w6, hput, hfin⟩ := takeLayI a b x hc H4.out Hkl.out (by rw [Hn.out]; omega) (HO.out.fr.trans hf5 (fun i hi e => by subst e; omega)) (by rw [Hn.out]; exact hs5) hg4; rw [Hn.out] at hput; have Hfin := Lib.hid hfin; have S5 := Lib.hid (And.intro (hf5.cell (p := ⟨p, 1, none⟩) S4.out.1 (fun e => by have e : p = g4 := e; omega)) (And.intro (hf5.cell (p := ⟨w.heap.size, 0, none⟩) S4.out.2.1 (fun e => by have e : w.heap.size = g4 := e; omega)) (hf5.cell (p := ⟨w.heap.size, 1, none⟩) S4.out.2.2 (fun e => by have e : w.heap.size = g4 := e; omega)))); clear hs5 hf5 hfin
  refine hK.out _ _ ?_ (fun hHeld' => ?_)
  · first | exact S4.out | exact S5.out
  clear hK K hHeld
  have hHeld := hHeld'
  clear hHeld'
  try simp only [Act.put, List.setIfInBounds_toArray, List.set_cons_zero, List.set_cons_succ]
  refine held_last 11 rfl (by kernel_rfl) (by kernel_rfl) (fun K hK => ?_)
  rw [if_pos (by rfl)]
  refine wp_mapUpdate rfl rfl rfl rfl hput ?_
  refine hK.out _ _ ?_
  clear hK K
  try simp only [Act.put, List.setIfInBounds_toArray, List.set_cons_zero, List.set_cons_succ]
  refine held_done (by kernel_rfl) ?_
  try clear hHeld
  clear z0 z1 c1 hput hw1
  go_wp2
  go_ret2
  obtain ⟨V', g1, g2, g3⟩ := Hfin.out
  exact ⟨rfl, V', g1, (F4.out.mono (fun _ _ f => f.elim)).trans g2 (fun i hi e => e), fun g' hg' => (g3 g' hg').imp id (fun h => Nat.le_trans F4.out.size h)⟩

theorem wayLawI : WideMaps.KeyLaw Try.prog 62 := deep_law_laid (m := Try.prog.types.size + 1) laidOutI (of_decide_eq_true (by kernel_rfl)) (of_decide_eq_true (by kernel_rfl)) (by kernel_rfl) (by kernel_rfl)

set_option maxHeartbeats 2000000 in
theorem cutI {p b1 b2 : Nat} {s : Int} {c : Nat} {L : Int → Int → List Int} {C : Int → Int → Bool} {V : Int → Int → Value} {w : World} (a b : Int) (on : Bool) (h : NtI w p b1 b2 s c L C V) (hp : isPair s a b = true) (hc : c < 1000000) :
    Calls Try.prog 21 #[.pointer (some ⟨p, 0, none⟩), .int .i64 a, .int .i64 b, .bool on] w fun e w' => e = .returned (.int .i64 0) ∧ NtI w' p b1 b2 s (c + 2) L (upd2 (upd2 C a b on) b a on) V ∧ Fr (fun g => g = b2) w w' := by
  have hd : 0 ≤ a ∧ a < s ∧ 0 ≤ b ∧ b < s ∧ a ≠ b := by simpa [isPair] using hp
  have hs := h.sites
  obtain ⟨kl, hkl⟩ := wayKeyI (a := a) (b := b) (by omega) (by omega)
  obtain ⟨kl2, hkl2⟩ := wayKeyI (a := b) (b := a) (by omega) (by omega)
  have hdw : Fr no w w.drew := (Fr.refl no _).drewN 1
  have h1 := h.fr0 hdw
  have c2 := h1.c2
  have hu := onKey_upd (.bool false) (fun a b => .bool (C a b)) a b (.bool on)
  have hu2 := onKey_upd (.bool false) (fun c d => .bool (upd2 C a b on c d)) b a (.bool on)
  have e0 : ∀ (C : Int → Int → Bool) a b, (upd2 (fun a b => Value.bool (C a b)) a b (.bool on)) = fun c d => Value.bool (upd2 C a b on c d) := fun C a b => by
    funext c d; unfold upd2; split <;> rfl
  rw [e0] at hu hu2
  obtain ⟨v0, st, w1, w2, r1, f1, r2, f2, m2⟩ := h1.cut.entry wayLawI Try.underlying58 (fun u => by kernel_rfl) (by unfold maxLen; omega) hkl (.bool on)
  have m2 := m2 _ hu.1 hu.2
  obtain ⟨v3, st3, w3, w4, r3, f3, r4, f4, m4⟩ := m2.entry wayLawI Try.underlying58 (fun u => by kernel_rfl) (by unfold maxLen; omega) hkl2 (.bool on)
  have m4 := m4 _ hu2.1 hu2.2
  have hF : Fr (fun g => g = b2) w.drew w4 := ((f1.trans' f2).trans' f3).trans' f4
  have Hfin : Hid (NtI w4 p b1 b2 s (c + 2) L (upd2 (upd2 C a b on) b a on) V ∧ Fr (fun g => g = b2) w w4) := Lib.hid
    ⟨⟨hF.heap h1.cell h.ne.2.1, (h1.ways.fr hF (fun e => h.ne.2.2 e)).mono (by omega), m4, ⟨fun a' b' => (h1.v.row a' b').fr hF (fun g hg e => (h.v.far a' b' g hg).2.2 e), h.v.apart, h.v.far⟩, h.ne, h.sites⟩, (hdw.mono (fun _ _ f => f.elim)).trans' hF⟩
  have S1 := Lib.hid (f1.cell (p := ⟨p, 2, none⟩) c2 h.ne.2.1)
  have S2 := Lib.hid (f2.cell (p := ⟨p, 2, none⟩) S1.out h.ne.2.1)
  have S3 := Lib.hid (f3.cell (p := ⟨p, 2, none⟩) S2.out h.ne.2.1)
  have Hp := Lib.hid (pairI a b h)
  rw [hp] at Hp
  clear h hp hd hs hkl hkl2 hdw h1 hu hu2 e0 f1 f2 f3 f4 m2 m4 hF
  go_enter Try.func21, Try.ntmps21
  go_wp2_with fail
  refine Hp.out.mono ?_
  rintro e w' ⟨rfl, rfl⟩
  go_wp2_with fail
  refine wp_held (fun w' => w'.cell? ⟨p, 2, none⟩ = some (.map (some b2))) (by kernel_rfl) ?_ (fun hHeld => ?_)
  · exact c2
  refine held_take (v := ?_) 0 rfl (by kernel_rfl) (.inl ⟨by rfl, ?_⟩) hHeld ?_
  rotate_left
  · intro w hSw; (try dsimp only at hSw); first | (go_simp; done) | (go_simp; with_reducible rfl)
  try simp only [Act.put, List.setIfInBounds_toArray, List.set_cons_zero, List.set_cons_succ]
  refine held_take (v := ?_) 1 rfl (by kernel_rfl) (.inl ⟨by rfl, ?_⟩) hHeld ?_
  rotate_left
  · intro w hSw; (try dsimp only at hSw); first | (go_simp; done) | (go_simp; with_reducible rfl)
  try simp only [Act.put, List.setIfInBounds_toArray, List.set_cons_zero, List.set_cons_succ]
  refine held_take (v := ?_) 2 rfl (by kernel_rfl) (.inl ⟨by rfl, ?_⟩) hHeld ?_
  rotate_left
  · intro w hSw; (try dsimp only at hSw); first | (go_simp; done) | (go_simp; with_reducible rfl)
  try simp only [Act.put, List.setIfInBounds_toArray, List.set_cons_zero, List.set_cons_succ]
  refine held_take (v := ?_) 3 rfl (by kernel_rfl) (.inl ⟨by rfl, ?_⟩) hHeld ?_
  rotate_left
  · intro w hSw; (try dsimp only at hSw); first | (go_simp; done) | (go_simp; with_reducible rfl)
  try simp only [Act.put, List.setIfInBounds_toArray, List.set_cons_zero, List.set_cons_succ]
  refine held_take (v := ?_) 4 rfl (by kernel_rfl) (.inl ⟨by rfl, ?_⟩) hHeld ?_
  rotate_left
  · intro w hSw; (try dsimp only at hSw); first | (go_simp; done) | (go_simp; with_reducible rfl)
  try simp only [Act.put, List.setIfInBounds_toArray, List.set_cons_zero, List.set_cons_succ]
  refine held_take (v := ?_) 5 rfl (by kernel_rfl) (.inl ⟨by rfl, ?_⟩) hHeld ?_
  rotate_left
  · intro w hSw; (try dsimp only at hSw); first | (go_simp; done) | (go_simp; with_reducible rfl)
  try simp only [Act.put, List.setIfInBounds_toArray, List.set_cons_zero, List.set_cons_succ]
  refine held_take (v := ?_) 6 rfl (by kernel_rfl) (.inl ⟨by rfl, ?_⟩) hHeld ?_
  rotate_left
  · intro w hSw; (try dsimp only at hSw); first | (go_simp; done) | (go_simp; with_reducible rfl)
  try simp only [Act.put, List.setIfInBounds_toArray, List.set_cons_zero, List.set_cons_succ]
  refine held_take (v := ?_) 7 rfl (by kernel_rfl) (.inl ⟨by rfl, ?_⟩) hHeld ?_
  rotate_left
  · intro w hSw; (try dsimp only at hSw); first | (go_simp; done) | (go_simp; with_reducible rfl)
  try simp only [Act.put, List.setIfInBounds_toArray, List.set_cons_zero, List.set_cons_succ]
  refine held_take (v := ?_) 8 rfl (by kernel_rfl) (.inl ⟨by rfl, ?_⟩) hHeld ?_
  rotate_left
  · intro w hSw; (try dsimp only at hSw); first | (go_simp; done) | (go_simp; with_reducible rfl)
  try simp only [Act.put, List.setIfInBounds_toArray, List.set_cons_zero, List.set_cons_succ]
  refine held_take (v := ?_) 9 rfl (by kernel_rfl) (.inl ⟨by rfl, ?_⟩) hHeld ?_
  rotate_left
  · intro w hSw; (try dsimp only at hSw); first | (go_simp; done) | (go_simp; with_reducible rfl)
  try simp only [Act.put, List.setIfInBounds_toArray, List.set_cons_zero, List.set_cons_succ]
  refine held_take (v := ?_) 10 rfl (by kernel_rfl) (.inl ⟨by rfl, ?_⟩) hHeld ?_
  rotate_left
  · intro w hSw; (try dsimp only at hSw); first | (go_simp; done) | (go_simp; with_reducible rfl)
  try simp only [Act.put, List.setIfInBounds_toArray, List.set_cons_zero, List.set_cons_succ]
  refine held_take (v := ?_) 11 rfl (by kernel_rfl) (.inl ⟨by rfl, ?_⟩) hHeld ?_
  rotate_left
  · intro w hSw; (try dsimp only at hSw); first | (go_simp; done) | (go_simp; with_reducible rfl)
  try simp only [Act.put, List.setIfInBounds_toArray, List.set_cons_zero, List.set_cons_succ]
  refine held_take (v := ?_) 12 rfl (by kernel_rfl) (.inl ⟨by rfl, ?_⟩) hHeld ?_
  rotate_left
  · intro w hSw; (try dsimp only at hSw); first | (go_simp; done) | (go_simp; with_reducible rfl)
  try simp only [Act.put, List.setIfInBounds_toArray, List.set_cons_zero, List.set_cons_succ]
  refine held_take (v := ?_) 13 rfl (by kernel_rfl) (.inl ⟨by rfl, ?_⟩) hHeld ?_
  rotate_left
  · intro w hSw; (try dsimp only at hSw); first | (go_simp; done) | (go_simp; with_reducible rfl)
  try simp only [Act.put, List.setIfInBounds_toArray, List.set_cons_zero, List.set_cons_succ]
  refine held_take (v := ?_) 14 rfl (by kernel_rfl) (.inl ⟨by rfl, ?_⟩) hHeld ?_
  rotate_left
  · intro w hSw; (try dsimp only at hSw); first | (go_simp; done) | (go_simp; with_reducible rfl)
  try simp only [Act.put, List.setIfInBounds_toArray, List.set_cons_zero, List.set_cons_succ]
  refine held_take (v := ?_) 15 rfl (by kernel_rfl) (.inl ⟨by rfl, ?_⟩) hHeld ?_
  rotate_left
  · intro w hSw; (try dsimp only at hSw); first | (go_simp; done) | (go_simp; with_reducible rfl)
  try simp only [Act.put, List.setIfInBounds_toArray, List.set_cons_zero, List.set_cons_succ]
  refine held_call 16 rfl (by kernel_rfl) (fun K hK => ?_)
  rw [if_pos (by rfl)]
  refine wp_mapEntry rfl rfl rfl r1 ?_
  refine hK.out _ _ ?_ (fun hHeld' => ?_)
  · first | exact S1.out | exact S2.out | exact S3.out
  clear hK K hHeld
  have hHeld := hHeld'
  clear hHeld'
  try simp only [Act.put, List.setIfInBounds_toArray, List.set_cons_zero, List.set_cons_succ]
  refine held_take (v := ?_) 17 rfl (by kernel_rfl) (.inl ⟨by rfl, ?_⟩) hHeld ?_
  rotate_left
  · intro w hSw; (try dsimp only at hSw); first | (go_simp; done) | (go_simp; with_reducible rfl)
  try simp only [Act.put, List.setIfInBounds_toArray, List.set_cons_zero, List.set_cons_succ]
  refine held_call 18 rfl (by kernel_rfl) (fun K hK => ?_)
  rw [if_pos (by rfl)]
  refine wp_entryStore rfl rfl rfl rfl r2 ?_
  refine hK.out _ _ ?_ (fun hHeld' => ?_)
  · first | exact S1.out | exact S2.out | exact S3.out
  clear hK K hHeld
  have hHeld := hHeld'
  clear hHeld'
  try simp only [Act.put, List.setIfInBounds_toArray, List.set_cons_zero, List.set_cons_succ]
  refine held_call 19 rfl (by kernel_rfl) (fun K hK => ?_)
  rw [if_pos (by rfl)]
  refine wp_mapEntry rfl rfl rfl r3 ?_
  refine hK.out _ _ ?_ (fun hHeld' => ?_)
  · first | exact S1.out | exact S2.out | exact S3.out
  clear hK K hHeld
  have hHeld := hHeld'
  clear hHeld'
  try simp only [Act.put, List.setIfInBounds_toArray, List.set_cons_zero, List.set_cons_succ]
  refine held_take (v := ?_) 20 rfl (by kernel_rfl) (.inl ⟨by rfl, ?_⟩) hHeld ?_
  rotate_left
  · intro w hSw; (try dsimp only at hSw); first | (go_simp; done) | (go_simp; with_reducible rfl)
  try simp only [Act.put, List.setIfInBounds_toArray, List.set_cons_zero, List.set_cons_succ]
  refine held_last 21 rfl (by kernel_rfl) (by kernel_rfl) (fun K hK => ?_)
  rw [if_pos (by rfl)]
  refine wp_entryStore rfl rfl rfl rfl r4 ?_
  refine hK.out _ _ ?_
  clear hK K
  try simp only [Act.put, List.setIfInBounds_toArray, List.set_cons_zero, List.set_cons_succ]
  refine held_done (by kernel_rfl) ?_
  try clear hHeld
  clear r1 r2 r3 r4 S1 S2 S3 c2
  go_wp2
  go_ret
  exact ⟨rfl, Hfin.out⟩

theorem cutI_bad {p b1 b2 : Nat} {s : Int} {c : Nat} {L : Int → Int → List Int} {C : Int → Int → Bool} {V : Int → Int → Value} {w : World} (a b : Int) (on : Bool) (h : NtI w p b1 b2 s c L C V) (hp : isPair s a b = false) :
    Calls Try.prog 21 #[.pointer (some ⟨p, 0, none⟩), .int .i64 a, .int .i64 b, .bool on] w fun e w' => e = .returned (.int .i64 1) ∧ w = w' := by
  have Hp := Lib.hid (pairI a b h)
  rw [hp] at Hp
  clear h hp
  go_enter Try.func21, Try.ntmps21
  go_wp2_with fail
  refine Hp.out.mono ?_
  rintro e w' ⟨rfl, rfl⟩
  go_wp2
  go_ret
  exact ⟨rfl, rfl⟩

set_option maxHeartbeats 2000000 in
theorem copyNoI {p b1 b2 : Nat} {s : Int} {c : Nat} {L : Int → Int → List Int} {C : Int → Int → Bool} {V : Int → Int → Value} {w : World} (a b k : Int) (r : Int) (h : NtI w p b1 b2 s c L C V) (ha : -9223372036854775808 ≤ a ∧ a ≤ 9223372036854775807) (hb : -9223372036854775808 ≤ b ∧ b ≤ 9223372036854775807)
    (hr : (isPair s a b = false ∧ r = 1) ∨ (isPair s a b = true ∧ C a b = true ∧ r = 11) ∨ (isPair s a b = true ∧ C a b = false ∧ L a b = [] ∧ r = 3)) :
    Calls Try.prog 20 #[.pointer (some ⟨p, 0, none⟩), .int .i64 a, .int .i64 b, .int .i64 k] w fun e w' => e = .returned (.int .i64 r) ∧ Fr no w w' := by
  obtain ⟨kl, hkl⟩ := wayKeyI ha hb
  have hfa : Fr no w (w.alloc (.cells #[.int .i64 a, .int .i64 b] 62)) := (Fr.refl no w).alloc _
  have H1 := Lib.hid (h.fr0 hfa)
  have Hkl := Lib.hid hkl
  have Hr := Lib.hid hr
  clear h hkl ha hb hr
  have look : Hid (∀ W : World, NtI W p b1 b2 s c L C V → (∀ n, (Instr.lookup 58 (.map (some b2)) (wkey a b) false).run Try.prog (W.drewN n) = .ok (.bool (C a b)) (W.drewN n)) ∧
      ∀ n, (Instr.lookup 57 (.map (some b1)) (wkey a b) false).run Try.prog (W.drewN n) = .ok (V a b) (W.drewN n)) := Lib.hid (fun W hW => ⟨fun n => by
    have := (hW.cut.fr ((Fr.refl no _).drewN n) (fun f => f)).look wayKI Try.underlying58 (by kernel_rfl) Hkl.out
    rwa [onKey_key] at this, fun n => by
    have := (hW.ways.fr ((Fr.refl no _).drewN n) (fun f => f)).look wayKI Try.underlying57 (by kernel_rfl) Hkl.out
    rwa [onKey_key] at this⟩)
  have hl1 := (look.out _ H1.out).2
  have c1 := H1.out.c1
  obtain ⟨ao, cap, hV, hcap, hmx⟩ := (H1.out.v.row a b).cap
  rw [hV] at hl1
  clear hV
  go_enter Try.func20, Try.ntmps20
  go_wp2_with fail
  go_quiet (fail)
  have H2 := Lib.hid (H1.out.fr0 ((Fr.refl no _).drewN nq))
  have F2 := Lib.hid (hfa.drewN nq)
  have x0 : ((w.alloc (.cells #[.int .i64 a, .int .i64 b] 62)).drewN nq).cell? ⟨w.heap.size, 0, none⟩ = some (.int .i64 a) := cell_of_block (World.alloc_heap_new w _) rfl
  have x1 : ((w.alloc (.cells #[.int .i64 a, .int .i64 b] 62)).drewN nq).cell? ⟨w.heap.size, 1, none⟩ = some (.int .i64 b) := cell_of_block (World.alloc_heap_new w _) rfl
  clear hl1 c1 H1 hfa
  generalize (w.alloc (.cells #[.int .i64 a, .int .i64 b] 62)).drewN nq = w2 at *
  go_wp2_with fail
  refine (pairI a b H2.out).mono ?_
  rintro e w' ⟨rfl, rfl⟩
  rcases Hr.out with ⟨hp, rfl⟩ | ⟨hp, hC, rfl⟩ | ⟨hp, hC, hL, rfl⟩
  · rw [hp]
    clear hp Hr
    go_wp2
    go_ret
    exact ⟨rfl, F2.out⟩
  · have hl2 := (look.out _ H2.out).1
    rw [hC] at hl2
    have c2 := H2.out.c2
    rw [hp]
    clear hp hC Hr
    go_wp2_with fail
    go_quiet (fail)
    go_wp2
    go_ret
    exact ⟨rfl, F2.out.drewN _⟩
  · have hl2 := (look.out _ H2.out).1
    rw [hC] at hl2
    have c2 := H2.out.c2
    have hl : (L a b).length = 0 := by rw [hL]; rfl
    rw [hp, hl]
    clear hp hC Hr hL hl
    go_wp2_with fail
    go_quiet (fail)
    go_wp2
    go_ret
    exact ⟨rfl, F2.out.drewN _⟩

set_option maxHeartbeats 2000000 in
theorem copyYesI {p b1 b2 : Nat} {s : Int} {c : Nat} {L : Int → Int → List Int} {C : Int → Int → Bool} {V : Int → Int → Value} {w : World} (a b k : Int) (pp : Nat) (x : Int) (h : NtI w p b1 b2 s c L C V) (hc : c < 1000000)
    (hp : isPair s a b = true) (hC : C a b = false) (hpp : (max k 0) % ((L a b).length : Int) = pp) (hx : (L a b)[pp]? = some x) (hlen : (L a b).length ≤ 1000) :
    Calls Try.prog 20 #[.pointer (some ⟨p, 0, none⟩), .int .i64 a, .int .i64 b, .int .i64 k] w fun e w' => e = .returned (.int .i64 (sendR s L C a b)) ∧ ∃ V', NtI w' p b1 b2 s (c + 1) (sendL s L C a b x) C V' ∧ Fr (NetOwn p b1 b2 V) w w' ∧ ∀ g, NetOwn p b1 b2 V' g → NetOwn p b1 b2 V g ∨ w.heap.size ≤ g := by
  have hd : 0 ≤ a ∧ a < s ∧ 0 ≤ b ∧ b < s ∧ a ≠ b := by simpa [isPair] using hp
  have hs := h.sites
  have ha : -9223372036854775808 ≤ a ∧ a ≤ 9223372036854775807 := by omega
  have hb : -9223372036854775808 ≤ b ∧ b ≤ 9223372036854775807 := by omega
  obtain ⟨kl, hkl⟩ := wayKeyI ha hb
  have hfa : Fr no w (w.alloc (.cells #[.int .i64 a, .int .i64 b] 62)) := (Fr.refl no w).alloc _
  have H1 := Lib.hid (h.fr0 hfa)
  have Hkl := Lib.hid hkl
  have HC := Lib.hid hC
  have Hp := Lib.hid hp
  have Hx := Lib.hid hx
  have Hab := Lib.hid (And.intro ha hb)
  have hpl := (List.getElem?_eq_some_iff.1 hx).1
  clear h hkl ha hb hC hx hd hs hp
  have look : Hid (∀ W : World, NtI W p b1 b2 s c L C V → (∀ n, (Instr.lookup 58 (.map (some b2)) (wkey a b) false).run Try.prog (W.drewN n) = .ok (.bool (C a b)) (W.drewN n)) ∧
      ∀ n, (Instr.lookup 57 (.map (some b1)) (wkey a b) false).run Try.prog (W.drewN n) = .ok (V a b) (W.drewN n)) := Lib.hid (fun W hW => ⟨fun n => by
    have := (hW.cut.fr ((Fr.refl no _).drewN n) (fun f => f)).look wayKI Try.underlying58 (by kernel_rfl) Hkl.out
    rwa [onKey_key] at this, fun n => by
    have := (hW.ways.fr ((Fr.refl no _).drewN n) (fun f => f)).look wayKI Try.underlying57 (by kernel_rfl) Hkl.out
    rwa [onKey_key] at this⟩)
  have hl1 := (look.out _ H1.out).2
  have c1 := H1.out.c1
  obtain ⟨g, off, cap, ds, hV, hcap, hmx, hgb, _, hgc⟩ := (H1.out.v.row a b).form (by omega)
  have HV := Lib.hid hV
  rw [hV] at hl1
  clear hV
  go_enter Try.func20, Try.ntmps20
  go_wp2_with fail
  go_quiet (fail)
  have H2 := Lib.hid (H1.out.fr0 ((Fr.refl no _).drewN nq))
  have F2 := Lib.hid (hfa.drewN nq)
  have x0 : ((w.alloc (.cells #[.int .i64 a, .int .i64 b] 62)).drewN nq).cell? ⟨w.heap.size, 0, none⟩ = some (.int .i64 a) := cell_of_block (World.alloc_heap_new w _) rfl
  have x1 : ((w.alloc (.cells #[.int .i64 a, .int .i64 b] 62)).drewN nq).cell? ⟨w.heap.size, 1, none⟩ = some (.int .i64 b) := cell_of_block (World.alloc_heap_new w _) rfl
  have y0 : ((w.alloc (.cells #[.int .i64 a, .int .i64 b] 62)).drewN nq).cell? ⟨g, off + pp, none⟩ = some (.int .i64 x) := cell_of_block (w := (w.alloc (.cells #[.int .i64 a, .int .i64 b] 62)).drewN nq) hgb (hgc pp _ (by rw [List.getElem?_map, Hx.out]; rfl))
  clear hl1 c1 H1 hfa hgb hgc
  generalize (w.alloc (.cells #[.int .i64 a, .int .i64 b] 62)).drewN nq = w2 at *
  go_wp2_with fail
  refine (pairI a b H2.out).mono ?_
  rintro e w' ⟨rfl, rfl⟩
  rw [Hp.out]
  have hl2 := (look.out _ H2.out).1
  rw [HC.out] at hl2
  have c2 := H2.out.c2
  generalize hn : (L a b).length = n at *
  have Hn := Lib.hid hn
  clear hn
  have hd : ((n : Int) == 0) = false := by simp; omega
  go_wp2_with fail
  go_quiet (fail)
  have H3 := Lib.hid (H2.out.fr0 ((Fr.refl no _).drewN nq))
  have F3 := Lib.hid (F2.out.drewN nq)
  have u0 : (w2.drewN nq).cell? ⟨g, off + pp, none⟩ = some (.int .i64 x) := y0
  clear hl2 c2 x0 x1 y0 H2 F2
  generalize w2.drewN nq = w3 at *
  have hsend := sendI a b x H3.out Hab.out.1 Hab.out.2 hc
  have Hsend := Lib.hid hsend
  clear hsend
  have fin : Hid (∀ w', (∃ V', NtI w' p b1 b2 s (c + 1) (sendL s L C a b x) C V' ∧ Fr (NetOwn p b1 b2 V) w3 w' ∧ ∀ g, NetOwn p b1 b2 V' g → NetOwn p b1 b2 V g ∨ w3.heap.size ≤ g) → ∃ V', NtI w' p b1 b2 s (c + 1) (sendL s L C a b x) C V' ∧ Fr (NetOwn p b1 b2 V) w w' ∧ ∀ g, NetOwn p b1 b2 V' g → NetOwn p b1 b2 V g ∨ w.heap.size ≤ g) :=
    Lib.hid (fun w' ⟨V', g1, g2, g3⟩ => ⟨V', g1, (F3.out.mono (fun _ _ f => f.elim)).trans g2 (fun i hi e => e), fun g' hg' => (g3 g' hg').imp id (fun h => Nat.le_trans F3.out.size h)⟩)
  by_cases hk : 0 ≤ k
  · rw [Int.max_eq_left hk] at hpp
    have hpt : k.tmod (n : Int) = pp := by rw [Int.tmod_eq_emod_of_nonneg hk]; exact hpp
    go_wp2_with fail
    refine Hsend.out.mono ?_
    rintro e w' ⟨rfl, hV'⟩
    have HV' := Lib.hid hV'
    clear hV' hpp hpt
    go_wp2
    go_ret
    exact ⟨rfl, fin.out _ HV'.out⟩
  · rw [Int.max_eq_right (by omega)] at hpp
    have h0 : pp = 0 := by have : (0 : Int) = pp := by rw [← hpp]; simp
                           omega
    subst h0
    clear hpp
    rw [Nat.add_zero] at u0
    go_wp2_with fail
    refine Hsend.out.mono ?_
    rintro e w' ⟨rfl, hV'⟩
    have HV' := Lib.hid hV'
    clear hV'
    go_wp2
    go_ret
    exact ⟨rfl, fin.out _ HV'.out⟩

theorem wayI (p : Nat) (a b : Int) (w : World) : Calls Try.prog 11 #[.pointer (some ⟨p, 0, none⟩), .int .i64 a, .int .i64 b] w fun e w' =>
    e = .returned (.func (.func 26) #[] #[.pointer (some ⟨w.heap.size, 0, none⟩), .pointer (some ⟨w.heap.size + 1, 0, none⟩), .pointer (some ⟨w.heap.size + 1 + 1, 0, none⟩)]) ∧
      ((w.alloc (.cells #[.pointer (some ⟨p, 0, none⟩)] 24)).alloc (.cells #[.int .i64 a] 3)).alloc (.cells #[.int .i64 b] 3) = w' := by
  go_enter Try.func11, Try.ntmps11
  go_wp2
  go_ret
  exact ⟨rfl, rfl⟩

/-- what a way's iterator reads -/
def WayPreI (c1 p b1 b2 : Nat) (s : Int) (c : Nat) (L : Int → Int → List Int) (C : Int → Int → Bool) (V : Int → Int → Value) (a b : Int) (W : World) : Prop :=
  W.heap[c1]? = some (.cells #[.pointer (some ⟨p, 0, none⟩)] 24 (0, 0)) ∧ W.heap[c1 + 1]? = some (.cells #[.int .i64 a] 3 (0, 0)) ∧ W.heap[c1 + 1 + 1]? = some (.cells #[.int .i64 b] 3 (0, 0)) ∧ NtI W p b1 b2 s c L C V
theorem WayPreI.bk {c1 p b1 b2 : Nat} {s : Int} {c : Nat} {L : Int → Int → List Int} {C : Int → Int → Bool} {V : Int → Int → Value} {a b : Int} {W W' : World} {B : Nat} (h : WayPreI c1 p b1 b2 s c L C V a b W) (hb : Bk B W W') : WayPreI c1 p b1 b2 s c L C V a b W' :=
  ⟨hb.heap h.1 rfl, hb.heap h.2.1 rfl, hb.heap h.2.2.1 rfl, h.2.2.2.bk hb⟩
theorem WayPreI.fr {c1 p b1 b2 : Nat} {s : Int} {c : Nat} {L : Int → Int → List Int} {C : Int → Int → Bool} {V : Int → Int → Value} {a b : Int} {W W' : World} {F : Nat → Prop} (h : WayPreI c1 p b1 b2 s c L C V a b W) (hf : Fr F W W') (hF : ∀ g, F g → g ≠ c1 ∧ g ≠ c1 + 1 ∧ g ≠ c1 + 1 + 1 ∧ ¬ NetOwn p b1 b2 V g) : WayPreI c1 p b1 b2 s c L C V a b W' :=
  ⟨hf.heap h.1 (fun e => (hF _ e).1 rfl), hf.heap h.2.1 (fun e => (hF _ e).2.1 rfl), hf.heap h.2.2.1 (fun e => (hF _ e).2.2.1 rfl), h.2.2.2.fr hf (fun g hg e => (hF _ e).2.2.2 hg)⟩
theorem wayPreI {p b1 b2 : Nat} {s : Int} {c : Nat} {L : Int → Int → List Int} {C : Int → Int → Bool} {V : Int → Int → Value} {w : World} (a b : Int) (h : NtI w p b1 b2 s c L C V) {w' : World}
    (hw : ((w.alloc (.cells #[.pointer (some ⟨p, 0, none⟩)] 24)).alloc (.cells #[.int .i64 a] 3)).alloc (.cells #[.int .i64 b] 3) = w') : WayPreI w.heap.size p b1 b2 s c L C V a b w' ∧ Fr no w w' := by
  have hf : Fr no w w' := by rw [← hw]; exact (((Fr.refl no w).alloc _).alloc _).alloc _
  refine ⟨⟨?_, ?_, ?_, h.fr0 hf⟩, hf⟩ <;> rw [← hw] <;> simp only [alloc_get, World.size_alloc, Nat.add_assoc] <;> simp

set_option maxHeartbeats 1000000 in
theorem wayIterI (c1 p b1 b2 : Nat) (s : Int) (c : Nat) (L : Int → Int → List Int) (C : Int → Int → Bool) (V : Int → Int → Value) (a b : Int) (ha : -9223372036854775808 ≤ a ∧ a ≤ 9223372036854775807) (hb : -9223372036854775808 ≤ b ∧ b ≤ 9223372036854775807) :
    EachD Fence.wide 2 Try.prog 26 #[.pointer (some ⟨c1, 0, none⟩), .pointer (some ⟨c1 + 1, 0, none⟩), .pointer (some ⟨c1 + 1 + 1, 0, none⟩)] (fun x : Nat × Int => #[.int .i64 x.1, .int .i64 x.2]) (WayPreI c1 p b1 b2 s c L C V a b) (enumG (L a b) 0) := by
  intro l J Jx W hJ hPre hY
  obtain ⟨g1, g2, g3, hN⟩ := hPre _ W hJ
  obtain ⟨kl, hkl⟩ := wayKeyI ha hb
  have e1 : W.cell? ⟨c1, 0, none⟩ = some (.pointer (some ⟨p, 0, none⟩)) := cell_of_block g1 rfl
  have e2 : W.cell? ⟨c1 + 1, 0, none⟩ = some (.int .i64 a) := cell_of_block g2 rfl
  have e3 : W.cell? ⟨c1 + 1 + 1, 0, none⟩ = some (.int .i64 b) := cell_of_block g3 rfl
  have e4 := hN.c1
  have hl1 : ∀ n, (Instr.lookup 57 (.map (some b1)) (wkey a b) false).run Try.prog (W.drewN n) = .ok (V a b) (W.drewN n) := fun n => by
    have := (hN.ways.fr ((Fr.refl no _).drewN n) (fun f => f)).look wayKI Try.underlying57 (by kernel_rfl) hkl
    rwa [onKey_key] at this
  obtain ⟨ao, cap, hV, hcap, hmx⟩ := (hN.v.row a b).cap
  rw [hV] at hl1
  have HV := Lib.hid hV
  clear g1 g2 g3 hN hkl hV ha hb
  generalize hn : (L a b).length = n at *
  have Hn := Lib.hid hn
  clear hn
  refine callsIn_of_wp Try.func26 rfl trivial ?_ rfl
  simp only [Try.ntmps26, List.size_toArray, List.length_cons, List.length_nil, Nat.reduceAdd, Nat.reduceSub, Array.replicate_succ, Array.replicate_zero, List.push_toArray, List.append_toArray, List.nil_append, List.cons_append]
  gi_wp2
  refine wpIn_region_q free_wide (by kernel_rfl) (by kernel_rfl) (by kernel_rfl) ?_
  repeat (go_big_quiet_step (fail))
  refine wpQuiet_nil ?_
  intro _ hw'
  obtain ⟨nq, hw''⟩ := hw'
  subst hw''
  clear e1 e2 e3 e4 hl1
  gi_wp2
  gi_loopw [16] (fun i wr => ∃ (k : Nat), k ≤ n ∧ i = .int .i64 k ∧ Hid (∃ W0 q, J (enumG ((L a b).drop k) k) W0 ∧ wr = W0.drewN q)) (fun i _ => n - (intOf i).toNat)
  case atStart => exact ⟨0, Nat.zero_le _, rfl, Lib.hid ⟨W, nq, hJ, rfl⟩⟩
  case round =>
    obtain ⟨k, hk, rfl, hJk⟩ := hrel
    by_cases hlt : k < n
    · obtain ⟨W0, q, hJ0, rfl⟩ := hJk.out
      have hN0 := (hPre _ W0 hJ0).2.2.2
      have hxl : k < (L a b).length := by rw [Hn.out]; exact hlt
      obtain ⟨g, off, cap', ds, he, _, _, hgb, _, hgc⟩ := (hN0.v.row a b).form (by omega)
      rw [HV.out, Hn.out] at he
      cases he
      obtain ⟨x, hxk⟩ : ∃ x, (L a b)[k]? = some x := ⟨(L a b)[k], by simp [hxl]⟩
      have hcx : (W0.drewN q).cell? ⟨g, off + k, none⟩ = some (.int .i64 x) := cell_of_block (w := W0.drewN q) hgb (hgc k _ (by rw [List.getElem?_map, hxk]; rfl))
      obtain ⟨fn, tmps, assign, body, hy, hR⟩ := hY _ W0 _ _ _ hJ0 ⟨enumG_some hxk, q, rfl⟩
      clear hgb hgc hxk hxl hJ hJ0 hN0 hJk
      gi_wp2
      refine hR.mono ?_
      rintro e W3 (⟨rfl, hJ3⟩ | ⟨rfl, hJx3⟩)
      · gi_wp2
        go_roundw
        case rel => exact ⟨k + 1, by omega, by go_num, Lib.hid ⟨W3, 0, hJ3, rfl⟩⟩
        case measure => simp [intOf]; omega
      · gi_wp2
        refine bodyPost_ret (results_none rfl _ _ _) rfl ?_
        exact ⟨⟨_, rfl⟩, .inr hJx3⟩
    · obtain rfl : k = n := by omega
      gi_wp2
      go_end0
      obtain ⟨W0, q, hJ0, rfl⟩ := hJk.out
      refine ⟨⟨_, rfl⟩, .inl ⟨_, W0, hJ0, ?_, q, rfl⟩⟩
      rw [List.drop_eq_nil_of_le (by rw [Hn.out]; exact Nat.le_refl _)]; rfl

/-- what holds while Len counts: K counted so far -/
def LenWI (w : World) (p b1 b2 : Nat) (s : Int) (c : Nat) (L : Int → Int → List Int) (C : Int → Int → Bool) (V : Int → Int → Value) (K : Nat) (ds : List Nat) (W : World) : Prop :=
  W.heap[w.heap.size]? = some (.cells #[.int .i64 K] 3 (0, 0)) ∧ NtI W p b1 b2 s c L C V ∧ Fr no w W ∧ Marks w.heap.size ds W
/-- .. within a way: N on it, s left -/
def LenII (w : World) (c1 p b1 b2 : Nat) (s : Int) (c : Nat) (L : Int → Int → List Int) (C : Int → Int → Bool) (V : Int → Int → Value) (a b : Int) (K N : Nat) (ds : List Nat) (l : List (Nat × Int)) (W : World) : Prop :=
  l.length ≤ N ∧ W.heap[w.heap.size]? = some (.cells #[.int .i64 ((K + (N - l.length) : Nat) : Int)] 3 (0, 0)) ∧ WayPreI c1 p b1 b2 s c L C V a b W ∧ Fr no w W ∧ Marks w.heap.size ds W

set_option maxHeartbeats 8000000 in
set_option maxRecDepth 10000 in
theorem lenI {p b1 b2 : Nat} {n c : Nat} {L : Int → Int → List Int} {C : Int → Int → Bool} {V : Int → Int → Value} {w : World} (h : NtI w p b1 b2 n c L C V) (hL : ∀ a b, (L a b).length ≤ 1000) :
    Calls Try.prog 13 #[.pointer (some ⟨p, 0, none⟩)] w fun e w' => e = .returned (.int .i64 (lenRows L n n)) ∧ Fr no w w' := by
  have hn := h.sites
  obtain ⟨hn1, hn8⟩ := hn
  have hb : ∀ i, i < n → ∀ j, j ≤ n → lenRows L n i + lenRow L i j ≤ 1000000 := fun i hi j hj => by
    have h1 := lenRows_le L hL n i
    have h2 := lenRow_le L hL i j
    have h3 : 1000 * n * i ≤ 1000 * 8 * 8 := Nat.mul_le_mul (by omega) (by omega)
    omega
  have hw1 : LenWI w p b1 b2 n c L C V 0 [] (w.alloc (.cells #[.int .i64 0] 3)) := ⟨World.alloc_heap_new w _, h.fr0 ((Fr.refl no w).alloc _), (Fr.refl no w).alloc _, Marks.nil _ _⟩
  have HW := Lib.hid hw1
  have Hb := Lib.hid hb
  have Hown := Lib.hid h.lt
  have hc0 := hw1.2.1.c0
  clear h hb hw1 hL
  refine calls_of_in (n := 4) free_wide (callsIn_of_wp_marks Try.func13 rfl trivial (wpIn_wide.2 ?_) rfl)
  simp only [Try.ntmps13, List.size_toArray, List.length_cons, List.length_nil, Nat.reduceAdd, Nat.reduceSub, Array.replicate_succ, Array.replicate_zero, List.push_toArray, List.append_toArray, List.nil_append, List.cons_append]
  go_wp2
  clear hc0
  refine wp_loop (fun a W => ∃ (i : Nat) (ds : List Nat) (u4 u5 u6 u7 u8 u11 u12 u13 u14 u15 u16 u17 u18 u19 u20 u21 u22 u23 u24 u25 u26 u27 u28 u29 u30 : Value), i ≤ n ∧ a = { tmps := #[Value.pointer (some ⟨p, 0, none⟩), undef, .int .i64 0, Value.pointer (some ⟨w.heap.size, 0, none⟩), u4, u5, u6, u7, u8, .int .i64 n, .int .i64 i, u11, u12, u13, u14, u15, u16, u17, u18, u19, u20, u21, u22, u23, u24, u25, u26, u27, u28, u29, u30], defers := ds.map XL.mark } ∧ LenWI w p b1 b2 n c L C V (lenRows L n i) ds W) (fun a _ => n - (intOf (a.tmps.getD 10 undef)).toNat) ?_ ?_
  · exact ⟨0, [], _, _, _, _, _, _, _, _, _, _, _, _, _, _, _, _, _, _, _, _, _, _, _, _, _, Nat.zero_le _, rfl, HW.out⟩
  clear HW
  rintro a W ⟨i, ds, u4, u5, u6, u7, u8, u11, u12, u13, u14, u15, u16, u17, u18, u19, u20, u21, u22, u23, u24, u25, u26, u27, u28, u29, u30, hi, rfl, hW⟩
  by_cases hin : i < n
  · have hc0 := hW.2.1.c0
    have HW := Lib.hid hW
    clear hW
    go_wp2
    refine wp_loop (fun a W => ∃ (j : Nat) (ds : List Nat) (u5 u6 u7 u8 u11 u12 u13 u14 u15 u18 u19 u20 u21 u22 u23 u24 u25 u26 u27 u28 u29 u30 : Value), j ≤ n ∧ a = { tmps := #[Value.pointer (some ⟨p, 0, none⟩), undef, .int .i64 0, Value.pointer (some ⟨w.heap.size, 0, none⟩), .int .i64 i, u5, u6, u7, u8, .int .i64 n, .int .i64 i, u11, u12, u13, u14, u15, .int .i64 n, .int .i64 j, u18, u19, u20, u21, u22, u23, u24, u25, u26, u27, u28, u29, u30], defers := ds.map XL.mark } ∧ LenWI w p b1 b2 n c L C V (lenRows L n i + lenRow L i j) ds W) (fun a _ => n - (intOf (a.tmps.getD 17 undef)).toNat) ?_ ?_
    · exact ⟨0, ds, _, _, _, _, _, _, _, _, _, _, _, _, _, _, _, _, _, _, _, _, _, _, Nat.zero_le _, rfl, HW.out⟩
    clear HW hc0
    rintro a W ⟨j, ds, u5, u6, u7, u8, u11, u12, u13, u14, u15, u18, u19, u20, u21, u22, u23, u24, u25, u26, u27, u28, u29, u30, hj, rfl, hW⟩
    by_cases hjn : j < n
    · have HW := Lib.hid hW
      clear hW
      go_wp2_with fail
      refine (wayI p i j W).mono ?_
      rintro e W1 ⟨rfl, hW1⟩
      obtain ⟨hpre, hf1⟩ := wayPreI (i : Int) (j : Int) HW.out.2.1 hW1
      have hm1 : Marks w.heap.size ds W1 := HW.out.2.2.2.kb (Kb.of_below hf1.below)
      have hI0 : LenII w W.heap.size p b1 b2 n c L C V i j (lenRows L n i + lenRow L i j) (L i j).length ds (enumG (L i j) 0) W1 := by
        refine ⟨by rw [enumG_length]; exact Nat.le_refl _, ?_, hpre, HW.out.2.2.1.trans' hf1, hm1⟩
        rw [enumG_length, Nat.sub_self, Nat.add_zero]
        exact hf1.heap HW.out.1 (fun f => f)
      have hlt1 : ∀ r ∈ ds, r < W1.heap.size := hm1.lt
      have hws : w.heap.size ≤ W1.heap.size := (HW.out.2.2.1.trans' hf1).size
      have hIbk : ∀ s Wa Wb, LenII w W.heap.size p b1 b2 n c L C V i j (lenRows L n i + lenRow L i j) (L i j).length ds s Wa → Bk W1.heap.size Wa Wb → LenII w W.heap.size p b1 b2 n c L C V i j (lenRows L n i + lenRow L i j) (L i j).length ds s Wb := by
        rintro s Wa Wb ⟨q1, q2, q3, q4, q5⟩ hb
        exact ⟨q1, hb.heap q2 rfl, q3.bk hb, hb.fr q4 hws, ⟨fun r hr => ⟨(q5.1 r hr).1, (Fr.block hb r (Array.getElem?_eq_some_iff.1 (q5.1 r hr).2).1 (fun ⟨g, _⟩ => by have := hlt1 r hr; omega)).trans (q5.1 r hr).2⟩, q5.2⟩⟩
      have HI0 := Lib.hid hI0
      have Hm1 := Lib.hid hm1
      clear hpre hf1 hm1 hI0 hW1 hlt1
      go_wp2_with fail
      refine (wpIn_wide (n := 3)).1 ?_
      refine wpIn_eachD (ls := enumG (L i j) 0) rfl (by intro h; cases h) (gf := 26) (lb := #[.pointer (some ⟨W.heap.size, 0, none⟩), .pointer (some ⟨W.heap.size + 1, 0, none⟩), .pointer (some ⟨W.heap.size + 1 + 1, 0, none⟩)]) rfl trivial (enters_of Try.func26 (by kernel_rfl) rfl)
        (wayIterI W.heap.size p b1 b2 n c L C V i j (by omega) (by omega)) (fun _ => rfl) (LenII w W.heap.size p b1 b2 n c L C V i j (lenRows L n i + lenRow L i j) (L i j).length ds) (fun _ _ => False)
        hIbk (fun _ _ _ f _ => f) ?hPre HI0.out ?round ?done (fun _ _ _ _ f => f.elim)
      case hPre => exact fun s W h => h.2.2.1
      case round =>
        rintro l Wr x s hr
        gi_wp2
        refine ⟨Kb.refl _, fun l Wb hb hl => ?_⟩
        obtain ⟨q1, q2, q3, q4, q5⟩ := hIbk _ _ _ hr hb
        clear hr hb hIbk
        have hk : lenRows L n i + lenRow L i j + (L i j).length ≤ 1000000 := by have := Hb.out i hin (j + 1) hjn; simp only [lenRow] at this; omega
        have hq1 : s.length + 1 ≤ (L i j).length := by simpa using q1
        rw [List.length_cons] at q2
        generalize hM : lenRows L n i + lenRow L i j + ((L i j).length - (s.length + 1)) = M at *
        have hM2 : lenRows L n i + lenRow L i j + ((L i j).length - s.length) = M + 1 := by omega
        have hM3 : M ≤ 1000000 := by omega
        have cK : Wb.cell? ⟨w.heap.size, 0, none⟩ = some (.int .i64 M) := cell_of_block q2 rfl
        have fK : Wb.frozen? ⟨w.heap.size, 0, none⟩ = false := frozen_of_block q2
        have hfin : Hid (Kb Wb (Wb.setCell ⟨w.heap.size, 0, none⟩ (.int .i64 ((M : Int) + 1))) ∧ LenII w W.heap.size p b1 b2 n c L C V i j (lenRows L n i + lenRow L i j) (L i j).length ds s (Wb.setCell ⟨w.heap.size, 0, none⟩ (.int .i64 ((M : Int) + 1)))) := by
          have hf : Fr (fun g => g = w.heap.size) Wb (Wb.setCell ⟨w.heap.size, 0, none⟩ (.int .i64 ((M : Int) + 1))) := (Fr.refl (fun g => g = w.heap.size) Wb).setCell (p := ⟨w.heap.size, 0, none⟩) (fun _ => rfl) _
          refine Lib.hid ⟨Kb.setCell _ _ _, by omega, ?_, q3.fr hf (fun g e => ?_), q4.trans hf (fun i hi e => by omega), q5.kb (Kb.setCell _ _ _)⟩
          · have := heap_setC (j := 0) (.int .i64 ((M : Int) + 1)) q2
            rw [hM2]
            simpa using this
          · have e : g = w.heap.size := e
            have hWs := HW.out.2.2.1.size
            have hWl := (Array.getElem?_eq_some_iff.1 HW.out.1).1
            refine ⟨by omega, by omega, by omega, fun ho => ?_⟩
            have h9 := Hown.out g ho
            omega
        clear q1 q2 q3 q4 q5 hq1 hM hM2 hk
        gi_wp2
        exact hfin.out
      case done =>
        rintro D Wd hD ⟨q1, q2, q3, q4, q5⟩ hd hkb
        have HD := Lib.hid (Hm1.out.cons hkb hD (Nat.le_trans hws hD) hd)
        have hq2 : Hid (Wd.heap[w.heap.size]? = some (.cells #[.int .i64 ((lenRows L n i + lenRow L i (j + 1) : Nat) : Int)] 3 (0, 0))) := by
          simp only [List.length_nil, Nat.sub_zero] at q2
          simp only [lenRow]
          rw [← Nat.add_assoc]
          exact Lib.hid q2
        have Q3 := Lib.hid q3.2.2.2
        have Q4 := Lib.hid q4
        clear q1 q2 q3 q4 q5 hd hkb hIbk HI0 Hm1
        go_wp2
        refine ⟨⟨j + 1, D :: ds, _, _, _, _, _, _, _, _, _, _, _, _, _, _, _, _, _, _, _, _, _, _, by omega, rfl, hq2.out, Q3.out, Q4.out, HD.out⟩, ?_⟩
        simp [intOf]; omega
    · obtain rfl : j = n := by omega
      have HW := Lib.hid hW
      clear hW
      go_wp2
      refine ⟨⟨i + 1, ds, _, _, _, _, _, _, _, _, _, _, _, _, _, _, _, _, _, _, _, _, _, _, _, _, _, by omega, rfl, HW.out⟩, ?_⟩
      simp [intOf]; omega
  · obtain rfl : i = n := by omega
    have cK : W.cell? ⟨w.heap.size, 0, none⟩ = some (.int .i64 (lenRows L i i)) := cell_of_block hW.1 rfl
    have HW := Lib.hid hW
    clear hW
    go_wp2
    refine leaveMarks rfl HW.out.2.2.2 (fun Wf hbf => ?_)
    exact ⟨_, by simp [results, Try.results13, go_sem], rfl, hbf.fr HW.out.2.2.1 (Nat.le_refl _)⟩
end Go.Proofs.Ytbjipgignnaomaa
