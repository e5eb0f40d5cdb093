/- The walk of DiskPlays. -/
import Derived.Test.YthlcbhpdbcnmjaaDiskP
namespace Go.XL
open Go.RowKit Go.Shelf
set_option linter.unusedVariables false
/-- the cells of a row of acts -/
def actCells (l : List (Int × Int × ByteArray)) : List Value := l.flatMap fun x => [.int .i64 x.1, .int .i64 x.2.1, .string x.2.2]
theorem actCells_get (l : List (Int × Int × ByteArray)) (k : Nat) (x : Int × Int × ByteArray) (h : l[k]? = some x) : (actCells l)[k * 3]? = some (.int .i64 x.1) ∧ (actCells l)[k * 3 + 1]? = some (.int .i64 x.2.1) ∧ (actCells l)[k * 3 + 2]? = some (.string x.2.2) := by
  induction l generalizing k with
  | nil => simp at h
  | cons y l ih =>
    cases k with
    | zero => simp at h; subst h; simp [actCells]
    | succ k =>
      have := ih k (by simpa using h)
      simpa [actCells, Nat.add_mul] using this
theorem actCells_len (l : List (Int × Int × ByteArray)) : (actCells l).length = l.length * 3 := by
  induction l with
  | nil => rfl
  | cons x r ih => simp only [actCells, List.flatMap_cons, List.length_append, List.length_cons, List.length_nil] at *; omega
theorem dWriteL_len (room : Int) (ls : List ByteArray) (s : ByteArray) : (dWriteL room ls s).length ≤ ls.length + 1 := by
  unfold dWriteL
  split <;> simp
theorem dCutL_len (ls : List ByteArray) (n : Nat) (k : Int) : (dCutL ls n k).length ≤ ls.length := by
  unfold dCutL
  generalize (if k < 0 ∨ (ls.length : Int) < k then (1 : Int) else if n < ls.length then 12 else 0) = r
  split
  · exact List.length_take_le' _ _
  · exact Nat.le_refl _
end Go.XL
namespace Go.Proofs.Ythlcbhpdbcnmjaa
open Go.RowKit Go.Shelf Go.XL
set_option linter.unusedVariables false
set_option linter.unusedSimpArgs false
attribute [local go_sem] Oper.semAt_some
abbrev DkR := Dk2 9 58 48

def FewOk (l : List (Int × Int × ByteArray)) : Prop := l.length ≤ 60 ∧ ∀ x ∈ l, x.2.2.size ≤ 200
theorem few_any (v : Value) (l : List (Int × Int × ByteArray)) (w : World) (hv : Rd w 3 v l.length (actCells l)) (hz : ∀ x ∈ l, x.2.2.size ≤ Go.maxLen) :
    Calls Try.prog 9 #[v] w fun e w' => (e = .returned (.bool false) ∨ (e = .returned (.bool true) ∧ FewOk l)) ∧ w = w' := by
  obtain ⟨ao, cap, rfl, hcap, hmx⟩ := hv.cap
  have Hv := Lib.hid hv
  have Hz := Lib.hid hz
  clear hv hz
  generalize hn : l.length = n at *
  have Hn := Lib.hid hn
  clear hn
  by_cases h60 : (60 : Int) < n
  · go_enter Try.func9, Try.ntmps9
    go_wp2
    go_ret
    exact ⟨.inl rfl, rfl⟩
  have hn60 : n ≤ 60 := by omega
  go_enter Try.func9, Try.ntmps9
  go_wp2_with fail
  go_loopw [3] (fun iv wr => ∃ i : Nat, i ≤ n ∧ iv = .int .i64 i ∧ w = wr ∧ Hid (∀ x ∈ l.take i, x.2.2.size ≤ 200)) (fun iv _ => n - (intOf iv).toNat)
  case atStart => exact ⟨0, Nat.zero_le _, rfl, rfl, by simp [Hid]⟩
  case round =>
    obtain ⟨i, hi, rfl, rfl, hC⟩ := hrel
    by_cases hlt : i < n
    · obtain ⟨g, off, cap', he, _, _, hx⟩ := Hv.out.form (by omega)
      cases he
      obtain ⟨⟨op, x, s⟩, hxk⟩ : ∃ x, l[i]? = some x := ⟨l[i]'(by rw [Hn.out]; exact hlt), by simp⟩
      obtain ⟨hx1, hx2, hx3⟩ := actCells_get l i _ hxk
      have hc3 : w.cell? ⟨g, off + i * 3 + 2, none⟩ = some (.string s) := by have := hx _ _ hx3; rwa [← Nat.add_assoc] at this
      have hs1 := Hz.out _ (List.mem_of_getElem? hxk)
      unfold Go.maxLen at hs1
      dsimp only at hs1
      have htk : l.take (i + 1) = l.take i ++ [(op, x, s)] := by rw [List.take_add_one, hxk]; simp
      have Htk := Lib.hid htk
      clear hx hx1 hx2 hx3 hxk htk
      by_cases hs : (s.size : Int) ≤ 200
      · have hC2 : Hid (∀ x ∈ l.take (i + 1), x.2.2.size ≤ 200) := Lib.hid (fun y hy => by
          rw [Htk.out] at hy
          rcases List.mem_append.1 hy with h | h
          · exact hC.out y h
          · simp at h; subst h; dsimp only; omega)
        clear hC
        go_wp2
        go_roundw
        case rel => exact ⟨i + 1, by omega, by go_num, trivial, hC2⟩
        case measure => simp [intOf]; omega
      · clear hC
        go_wp2
        go_ret
        exact ⟨.inl rfl, rfl⟩
    · obtain rfl : i = n := by omega
      rw [List.take_of_length_le (by rw [Hn.out]; exact Nat.le_refl _)] at hC
      go_wp2
      go_ret
      exact ⟨.inr ⟨rfl, by rw [Hn.out]; exact hn60, hC.out⟩, rfl⟩

set_option maxRecDepth 100000 in
set_option maxHeartbeats 8000000 in
theorem dplays_any (room : Int) (v : Value) (l : List (Int × Int × ByteArray)) (w : World) (hr0 : -9223372036854775808 ≤ room) (hr1 : room ≤ 9223372036854775807) (hv : Rd w 3 v l.length (actCells l))
    (hz : ∀ x ∈ l, x.2.2.size ≤ Go.maxLen ∧ -9223372036854775808 ≤ x.2.1 ∧ x.2.1 ≤ 9223372036854775807) :
    Calls Try.prog 3 #[.int .i64 room, v] w fun e w' => e = .returned (.bool true) ∧ Fr no w w' := by
  have Hfew := Lib.hid (fun w' (hf : Fr no w w') => few_any v l w' (hv.fr hf (fun _ _ _ f => f)) (fun x hx => (hz x hx).1))
  obtain ⟨ao, cap, rfl, hcap, hmx⟩ := hv.cap
  have Hv := Lib.hid hv
  have Hz := Lib.hid hz
  clear hv hz
  generalize hn : l.length = n at *
  have Hn := Lib.hid hn
  clear hn
  go_enter Try.func3, Try.ntmps3
  go_wp2_with fail
  refine (known_any w).mono ?_
  rintro e w1 ⟨rfl, hf1⟩
  have F1 := Lib.hid hf1
  clear hf1
  go_wp2_with fail
  refine (Hfew.out w1 F1.out).mono ?_
  rintro e w' ⟨rfl | ⟨rfl, hb⟩, rfl⟩
  · go_wp2
    go_ret
    exact ⟨rfl, F1.out⟩
  have Hb := Lib.hid hb
  clear hb Hfew
  have hn60 : n ≤ 60 := by rw [← Hn.out]; exact Hb.out.1
  go_wp2_with fail
  by_cases hbad : room < 1 ∨ 1048576 < room
  · refine (dNew_bad room w1 hbad).mono ?_
    rintro e w' ⟨rfl, rfl⟩
    go_wp2_with fail
    refine (rNew_bad room w1 hbad).mono ?_
    rintro e w' ⟨rfl, rfl⟩
    go_wp2
    go_ret
    exact ⟨rfl, F1.out⟩
  refine (dNewS room w1 w F1.out (by omega) (by omega)).mono ?_
  rintro e w2 ⟨p, v2, rfl, hN⟩
  have N2 := Lib.hid hN
  clear hN F1
  go_wp2_with fail
  refine (rNew room w2 (by omega) (by omega)).mono ?_
  rintro e w3 ⟨q, u3, rfl, hR, hf, ho⟩
  have N3 : Hid (DkR w w3 p v2 room [] 0 q u3 room [] 0) := Lib.hid (N2.out.two hR hf ho)
  clear hR hf ho N2
  go_wp2_with fail
  go_loopw [5, 9] (fun dv iv wr => ∃ (i p : Nat) (v : Value) (ls : List ByteArray) (lasts : Nat) (u : Value), i ≤ n ∧ dv = .pointer (some ⟨p, 0, none⟩) ∧ iv = .int .i64 i ∧ Hid (DkR w wr p v room ls lasts q u room ls lasts) ∧ Hid (ls.length ≤ i)) (fun _ iv _ => n - (intOf iv).toNat)
  case atStart => exact ⟨0, p, v2, [], 0, u3, Nat.zero_le _, rfl, rfl, N3, Lib.hid (Nat.le_refl _)⟩
  clear N3
  case round =>
    obtain ⟨i, p, v, ls, lasts, u, hi, rfl, rfl, hD, hL⟩ := hrel
    generalize wr = W at *
    by_cases hlt : i < n
    · obtain ⟨g, off, cap', he, _, _, hx⟩ := Hv.out.form (by omega)
      cases he
      obtain ⟨⟨op, x, s⟩, hxk⟩ : ∃ x, l[i]? = some x := ⟨l[i]'(by rw [Hn.out]; exact hlt), by simp⟩
      obtain ⟨hx1, hx2, hx3⟩ := actCells_get l i _ hxk
      have hfw := hD.out.one.fr
      have hc1 : W.cell? ⟨g, off + i * 3, none⟩ = some (.int .i64 op) := hfw.cell (hx _ _ hx1) (fun f => f)
      have hc2 : W.cell? ⟨g, off + i * 3 + 1, none⟩ = some (.int .i64 x) := hfw.cell (by have := hx _ _ hx2; rwa [← Nat.add_assoc] at this) (fun f => f)
      have hc3 : W.cell? ⟨g, off + i * 3 + 2, none⟩ = some (.string s) := hfw.cell (by have := hx _ _ hx3; rwa [← Nat.add_assoc] at this) (fun f => f)
      have hs2 := Hb.out.2 _ (List.mem_of_getElem? hxk)
      obtain ⟨hs1, hxa, hxb⟩ := Hz.out _ (List.mem_of_getElem? hxk)
      dsimp only at hs1 hs2 hxa hxb
      clear hx hx1 hx2 hx3 hfw hxk
      obtain ⟨W2, hW2⟩ : ∃ W2, W.alloc (.cells #[.int .i64 op, .int .i64 x, .string s] 33) = W2 := ⟨_, rfl⟩
      have D2 : Hid (DkR w W2 p v room ls lasts q u room ls lasts) := by rw [← hW2]; exact Lib.hid (hD.out.fr0 ((Fr.refl no W).alloc _))
      have hb2 : W2.heap[W.heap.size]? = some (.cells #[.int .i64 op, .int .i64 x, .string s] 33 (0, 0)) := by rw [← hW2]; exact World.alloc_heap_new W _
      have a0 : W2.cell? ⟨W.heap.size, 0, none⟩ = some (.int .i64 op) := cell_of_block hb2 rfl
      have a1 : W2.cell? ⟨W.heap.size, 1, none⟩ = some (.int .i64 x) := cell_of_block hb2 rfl
      have a2 : W2.cell? ⟨W.heap.size, 2, none⟩ = some (.string s) := cell_of_block hb2 rfl
      have hb3 := Lib.hid hb2
      clear hb2
      go_upto_block 2 with (fail)
      have Hlt : Hid (∀ g, Go.XL.D2 p v q u g → g < W.heap.size) := Lib.hid hD.out.lt
      clear hD
      go_cut [5] (fun dv wx => ∃ (p : Nat) (v : Value) (ls : List ByteArray) (lasts : Nat) (u : Value), dv = .pointer (some ⟨p, 0, none⟩) ∧ Hid (DkR w wx p v room ls lasts q u room ls lasts) ∧ Hid (ls.length ≤ i + 1))
      case first =>
        by_cases o1 : op = 1
        · subst o1
          have hnp : ¬ dOwn p v W.heap.size := fun e => by have := Hlt.out W.heap.size (.inl e); omega
          have hnq : ¬ dOwn q u W.heap.size := fun e => by have := Hlt.out W.heap.size (.inr e); omega
          have D3 := Lib.hid (D2.out.fr0 ((Fr.refl no W2).drewN 1))
          change Hid (DkR w W2.drew p v room ls lasts q u room ls lasts) at D3
          have z2 : W2.drew.cell? ⟨W.heap.size, 2, none⟩ = some (.string s) := cell_of_block (((Fr.refl no W2).drewN 1).heap hb3.out (fun f => f)) rfl
          clear D2 a0 a1 a2
          go_wp2_with fail
          refine wp_held (fun w' => w'.cell? ⟨W.heap.size, 2, none⟩ = some (.string s)) (by kernel_rfl) ?_ (fun hHeld => ?_)
          · exact z2
          refine held_take (v := ?_) 0 rfl (by kernel_rfl) (.inl ⟨by rfl, ?_⟩) hHeld ?_
          rotate_left
          · intro w hSw; (try dsimp only at hSw); first | (go_simp; done) | (go_simp; with_reducible rfl)
          try simp only [Act.put, List.setIfInBounds_toArray, List.set_cons_zero, List.set_cons_succ]
          refine held_take (v := ?_) 1 rfl (by kernel_rfl) (.inl ⟨by rfl, ?_⟩) hHeld ?_
          rotate_left
          · intro w hSw; (try dsimp only at hSw); first | (go_simp; done) | (go_simp; with_reducible rfl)
          try simp only [Act.put, List.setIfInBounds_toArray, List.set_cons_zero, List.set_cons_succ]
          refine held_take (v := ?_) 2 rfl (by kernel_rfl) (.inl ⟨by rfl, ?_⟩) hHeld ?_
          rotate_left
          · intro w hSw; (try dsimp only at hSw); first | (go_simp; done) | (go_simp; with_reducible rfl)
          try simp only [Act.put, List.setIfInBounds_toArray, List.set_cons_zero, List.set_cons_succ]
          refine held_take (v := ?_) 4 rfl (by kernel_rfl) (.inl ⟨by rfl, ?_⟩) hHeld ?_
          rotate_left
          · intro w hSw; (try dsimp only at hSw); first | (go_simp; done) | (go_simp; with_reducible rfl)
          try simp only [Act.put, List.setIfInBounds_toArray, List.set_cons_zero, List.set_cons_succ]
          refine held_take (v := ?_) 5 rfl (by kernel_rfl) (.inl ⟨by rfl, ?_⟩) hHeld ?_
          rotate_left
          · intro w hSw; (try dsimp only at hSw); first | (go_simp; done) | (go_simp; with_reducible rfl)
          try simp only [Act.put, List.setIfInBounds_toArray, List.set_cons_zero, List.set_cons_succ]
          refine held_take (v := ?_) 6 rfl (by kernel_rfl) (.inl ⟨by rfl, ?_⟩) hHeld ?_
          rotate_left
          · intro w hSw; (try dsimp only at hSw); first | (go_simp; done) | (go_simp; with_reducible rfl)
          try simp only [Act.put, List.setIfInBounds_toArray, List.set_cons_zero, List.set_cons_succ]
          refine held_call 3 rfl (by kernel_rfl) (fun K hK => ?_)
          go_simp
          go_at_call 12; refine (dWriteS s (by omega) D3.out.one.st).mono ?_; rintro e w4 ⟨rfl, v4, hS⟩; have D4 := Lib.hid (D3.out.step hS); have S4 := Lib.hid (hS.fr.cell z2 hnp); clear hS
          refine hK.out _ _ ?_ (fun hHeld' => ?_)
          · first | exact S4.out | exact S5.out
          clear hK K hHeld
          have hHeld := hHeld'
          clear hHeld'
          try simp only [Act.put, List.setIfInBounds_toArray, List.set_cons_zero, List.set_cons_succ]
          refine held_call 7 rfl (by kernel_rfl) (fun K hK => ?_)
          go_simp
          go_at_call 13; refine (rWrite s (by omega) D4.out.two.st).mono ?_; rintro e w5 ⟨rfl, v5, hS⟩; have D5 := Lib.hid (D4.out.step2 hS); have S5 := Lib.hid (hS.fr.cell S4.out hnq); clear hS
          refine hK.out _ _ ?_ (fun hHeld' => ?_)
          · first | exact S4.out | exact S5.out
          clear hK K hHeld
          have hHeld := hHeld'
          clear hHeld'
          try simp only [Act.put, List.setIfInBounds_toArray, List.set_cons_zero, List.set_cons_succ]
          refine held_take (v := ?_) 8 rfl (by kernel_rfl) (.inl ⟨by rfl, ?_⟩) hHeld ?_
          rotate_left
          · intro w hSw; (try dsimp only at hSw); first | (go_simp; done) | (go_simp; with_reducible rfl)
          try simp only [Act.put, List.setIfInBounds_toArray, List.set_cons_zero, List.set_cons_succ]
          refine held_done (by kernel_rfl) ?_
          try clear hHeld
          clear z2 hnp hnq
          generalize dWriteR room ls s = r at *
          go_wp2
          go_meet
          exact ⟨p, v4, _, _, v5, rfl, D5, Lib.hid (Nat.le_trans (dWriteL_len _ _ _) (by have := hL.out; omega))⟩
        by_cases o4 : op = 4
        · subst o4
          have hnp : ¬ dOwn p v W.heap.size := fun e => by have := Hlt.out W.heap.size (.inl e); omega
          have hnq : ¬ dOwn q u W.heap.size := fun e => by have := Hlt.out W.heap.size (.inr e); omega
          have D3 := Lib.hid (D2.out.fr0 ((Fr.refl no W2).drewN 1))
          change Hid (DkR w W2.drew p v room ls lasts q u room ls lasts) at D3
          have z2 : W2.drew.cell? ⟨W.heap.size, 1, none⟩ = some (.int .i64 x) := cell_of_block (((Fr.refl no W2).drewN 1).heap hb3.out (fun f => f)) rfl
          clear D2 a0 a1 a2
          go_wp2_with fail
          refine wp_held (fun w' => w'.cell? ⟨W.heap.size, 1, none⟩ = some (.int .i64 x)) (by kernel_rfl) ?_ (fun hHeld => ?_)
          · exact z2
          refine held_take (v := ?_) 0 rfl (by kernel_rfl) (.inl ⟨by rfl, ?_⟩) hHeld ?_
          rotate_left
          · intro w hSw; (try dsimp only at hSw); first | (go_simp; done) | (go_simp; with_reducible rfl)
          try simp only [Act.put, List.setIfInBounds_toArray, List.set_cons_zero, List.set_cons_succ]
          refine held_take (v := ?_) 1 rfl (by kernel_rfl) (.inl ⟨by rfl, ?_⟩) hHeld ?_
          rotate_left
          · intro w hSw; (try dsimp only at hSw); first | (go_simp; done) | (go_simp; with_reducible rfl)
          try simp only [Act.put, List.setIfInBounds_toArray, List.set_cons_zero, List.set_cons_succ]
          refine held_take (v := ?_) 2 rfl (by kernel_rfl) (.inl ⟨by rfl, ?_⟩) hHeld ?_
          rotate_left
          · intro w hSw; (try dsimp only at hSw); first | (go_simp; done) | (go_simp; with_reducible rfl)
          try simp only [Act.put, List.setIfInBounds_toArray, List.set_cons_zero, List.set_cons_succ]
          refine held_take (v := ?_) 4 rfl (by kernel_rfl) (.inl ⟨by rfl, ?_⟩) hHeld ?_
          rotate_left
          · intro w hSw; (try dsimp only at hSw); first | (go_simp; done) | (go_simp; with_reducible rfl)
          try simp only [Act.put, List.setIfInBounds_toArray, List.set_cons_zero, List.set_cons_succ]
          refine held_take (v := ?_) 5 rfl (by kernel_rfl) (.inl ⟨by rfl, ?_⟩) hHeld ?_
          rotate_left
          · intro w hSw; (try dsimp only at hSw); first | (go_simp; done) | (go_simp; with_reducible rfl)
          try simp only [Act.put, List.setIfInBounds_toArray, List.set_cons_zero, List.set_cons_succ]
          refine held_take (v := ?_) 6 rfl (by kernel_rfl) (.inl ⟨by rfl, ?_⟩) hHeld ?_
          rotate_left
          · intro w hSw; (try dsimp only at hSw); first | (go_simp; done) | (go_simp; with_reducible rfl)
          try simp only [Act.put, List.setIfInBounds_toArray, List.set_cons_zero, List.set_cons_succ]
          refine held_call 3 rfl (by kernel_rfl) (fun K hK => ?_)
          go_simp
          go_at_call 18; refine (dCutS x D3.out.one.st).mono ?_; rintro e w4 ⟨rfl, v4, hS⟩; have D4 := Lib.hid (D3.out.step hS); have S4 := Lib.hid (hS.fr.cell z2 hnp); clear hS
          refine hK.out _ _ ?_ (fun hHeld' => ?_)
          · first | exact S4.out | exact S5.out
          clear hK K hHeld
          have hHeld := hHeld'
          clear hHeld'
          try simp only [Act.put, List.setIfInBounds_toArray, List.set_cons_zero, List.set_cons_succ]
          refine held_call 7 rfl (by kernel_rfl) (fun K hK => ?_)
          go_simp
          go_at_call 19; refine (rCut x D4.out.two.st).mono ?_; rintro e w5 ⟨rfl, v5, hS⟩; have D5 := Lib.hid (D4.out.step2 hS); have S5 := Lib.hid (hS.fr.cell S4.out hnq); clear hS
          refine hK.out _ _ ?_ (fun hHeld' => ?_)
          · first | exact S4.out | exact S5.out
          clear hK K hHeld
          have hHeld := hHeld'
          clear hHeld'
          try simp only [Act.put, List.setIfInBounds_toArray, List.set_cons_zero, List.set_cons_succ]
          refine held_take (v := ?_) 8 rfl (by kernel_rfl) (.inl ⟨by rfl, ?_⟩) hHeld ?_
          rotate_left
          · intro w hSw; (try dsimp only at hSw); first | (go_simp; done) | (go_simp; with_reducible rfl)
          try simp only [Act.put, List.setIfInBounds_toArray, List.set_cons_zero, List.set_cons_succ]
          refine held_done (by kernel_rfl) ?_
          try clear hHeld
          clear z2 hnp hnq
          generalize dCutR ls lasts x = r at *
          go_wp2
          go_meet
          exact ⟨p, v4, _, _, v5, rfl, D5, Lib.hid (Nat.le_trans (dCutL_len _ _ _) (by have := hL.out; omega))⟩
        by_cases o2 : op = 2
        · subst o2
          go_wp2_with fail
          refine (dSyncS D2.out.one.st).mono ?_
          rintro e w4 ⟨x4, rfl, hS⟩
          have D4 := Lib.hid (D2.out.step hS)
          clear hS D2
          go_wp2_with fail
          refine (rSync D4.out.two.st).mono ?_
          rintro e w5 ⟨x5, rfl, hS⟩
          have D5 := Lib.hid (D4.out.step2 hS)
          clear hS D4
          go_wp2
          go_meet
          exact ⟨p, v, ls, _, u, rfl, D5, Lib.hid (by have := hL.out; omega)⟩
        by_cases o3 : op = 3
        · subst o3
          have a1' : ∀ w', Fr (dOwn p v) W2 w' → w'.cell? ⟨W.heap.size, 1, none⟩ = some (.int .i64 x) := fun w' hf => hf.cell a1 (fun e => by have := Hlt.out W.heap.size (.inl e); omega)
          have A1 := Lib.hid a1'
          clear a1'
          go_wp2_with fail
          refine (dCrashS x hxb D2.out.one.st).mono ?_
          rintro e w4 ⟨x4, v4, rfl, hS⟩
          have D4 := Lib.hid (D2.out.step hS)
          have b1 := A1.out w4 hS.fr
          clear hS D2 A1
          go_wp2_with fail
          refine (rCrash x hxb hxa D4.out.two.st).mono ?_
          rintro e w5 ⟨x5, v5, rfl, hS⟩
          have D5 := Lib.hid (D4.out.step2 hS)
          clear hS D4
          go_wp2
          go_meet
          exact ⟨p, v4, _, _, v5, rfl, D5, Lib.hid (Nat.le_trans (List.length_take_le' _ _) (by have := hL.out; omega))⟩
        by_cases o5 : op = 5
        · subst o5
          go_wp2_with fail
          refine (dTwin D2.out.one.st).mono ?_
          rintro e w4 ⟨p', v', rfl, hS, hf, ho⟩
          have PQ := Lib.hid (D2.out.fr0 hf)
          have PT : Hid (Dk2 9 58 58 w w4 p v room ls lasts p' v' room ls lasts) := Lib.hid (D2.out.one.two hS hf ho)
          have QT : Hid (Dk2 9 48 58 w w4 q u room ls lasts p' v' room ls lasts) := Lib.hid (D2.out.two.two hS hf ho)
          clear hS hf ho D2
          go_wp2_with fail
          refine (dCrashS 0 (by decide) PT.out.one.st).mono ?_
          rintro e w5 ⟨x5, v5, rfl, hS⟩
          have PQ5 := Lib.hid (PQ.out.step hS)
          have PT5 := Lib.hid (PT.out.step hS)
          have QT5 : Hid (Dk2 9 48 58 w w5 q u room ls lasts p' v' room ls lasts) := Lib.hid ⟨PQ5.out.two, PT5.out.two, QT.out.ap⟩
          clear hS PQ PT QT
          go_wp2_with fail
          refine (dWriteS ⟨#[122]⟩ (by decide) PT5.out.one.st).mono ?_
          rintro e w6 ⟨rfl, v6, hS⟩
          have PQ6 := Lib.hid (PQ5.out.step hS)
          have PT6 := Lib.hid (PT5.out.step hS)
          have QT6 : Hid (DkR w w6 p' v' room ls lasts q u room ls lasts) := Lib.hid ⟨PT6.out.two, PQ6.out.two, QT5.out.ap.symm⟩
          clear hS PQ5 PT5 QT5 PQ6 PT6
          generalize dWriteR room _ _ = r6 at *
          go_wp2
          go_meet
          exact ⟨p', v', ls, lasts, u, rfl, QT6, Lib.hid (by have := hL.out; omega)⟩
        · go_wp2
          go_meet
          exact ⟨p, v, ls, lasts, u, rfl, D2, Lib.hid (by have := hL.out; omega)⟩
      case rest =>
      clear D2 a0 a1 a2 hb3 Hlt hL hW2
      obtain ⟨p, v, ls, lasts, u, rfl, D6, hL⟩ := hcut
      have hll : ls.length ≤ 61 := by have := hL.out; omega
      have hla := D6.out.one.st.lasts
      obtain ⟨uo, uc, hu, huc, hum⟩ := D6.out.two.st.row.cap
      subst hu
      obtain ⟨m, hm⟩ : ∃ m, ls.length = m := ⟨_, rfl⟩
      have HM := Lib.hid hm
      have hL2 := hL.out
      rw [hm] at hll hla huc D6 hL2
      have hsub : ((m - lasts : Nat) : Int) = (m : Int) - lasts := by omega
      have hwr : IntKind.i64.wrap ((m : Int) - lasts) = (m : Int) - lasts := IntWalk.i64_in _ (by omega)
      have Hsub := Lib.hid hsub
      clear hm hsub hL
      have HL2 := Lib.hid hL2
      go_wp2_with fail
      refine (dLinesW D6.out.one.st).mono ?_
      rintro e w7 ⟨d7, rfl, hf, hc, _⟩
      have D7 := Lib.hid (D6.out.fr0 hf)
      have C7 := Lib.hid hc
      clear hf hc D6
      go_wp2_with fail
      refine (law_linesD D7.out.one.st C7.out 70 m HM.out (by omega) (by decide)).mono ?_
      rintro e w8 ⟨ao8, ac8, rfl, hrd, hf, hfs⟩
      have D8 := Lib.hid (D7.out.fr0 (hf.trans' ((Fr.refl no w8).drewN 1)))
      have A8 := Lib.hid (hrd.fr ((Fr.refl no w8).drewN 1) (fun _ _ _ f => f))
      change Hid (DkR w w8.drew p v room ls lasts q (.slice uo m uc) room ls lasts) at D8
      change Hid (Rd w8.drew 1 _ _ _) at A8
      have z1 := D8.out.two.st.c1
      have z2 := D8.out.two.st.c2
      clear hf hrd hfs C7 D7
      go_wp2_with fail
      refine wp_held (fun w' => w'.cell? ⟨q, 1, none⟩ = some (.slice uo m uc) ∧ w'.cell? ⟨q, 2, none⟩ = some (.int .i64 lasts)) (by kernel_rfl) ?_ (fun hHeld => ?_)
      · exact ⟨z1, z2⟩
      refine held_take (v := ?_) 0 rfl (by kernel_rfl) (.inl ⟨by rfl, ?_⟩) hHeld ?_
      rotate_left
      · intro w hSw; (try dsimp only at hSw); first | (go_simp; done) | (go_simp; with_reducible rfl)
      try simp only [Act.put, List.setIfInBounds_toArray, List.set_cons_zero, List.set_cons_succ]
      refine held_take (v := ?_) 1 rfl (by kernel_rfl) (.inl ⟨by rfl, ?_⟩) hHeld ?_
      rotate_left
      · intro w hSw; (try dsimp only at hSw); first | (go_simp; done) | (go_simp; with_reducible rfl)
      try simp only [Act.put, List.setIfInBounds_toArray, List.set_cons_zero, List.set_cons_succ]
      refine held_take (v := ?_) 2 rfl (by kernel_rfl) (.inl ⟨by rfl, ?_⟩) hHeld ?_
      rotate_left
      · intro w hSw; (try dsimp only at hSw); first | (go_simp; done) | (go_simp; with_reducible rfl)
      try simp only [Act.put, List.setIfInBounds_toArray, List.set_cons_zero, List.set_cons_succ]
      refine held_take (v := ?_) 3 rfl (by kernel_rfl) (.inl ⟨by rfl, ?_⟩) hHeld ?_
      rotate_left
      · intro w hSw; (try dsimp only at hSw); first | (go_simp; done) | (go_simp; with_reducible rfl)
      try simp only [Act.put, List.setIfInBounds_toArray, List.set_cons_zero, List.set_cons_succ]
      refine held_take (v := ?_) 4 rfl (by kernel_rfl) (.inl ⟨by rfl, ?_⟩) hHeld ?_
      rotate_left
      · intro w hSw; (try dsimp only at hSw); first | (go_simp; done) | (go_simp; with_reducible rfl)
      try simp only [Act.put, List.setIfInBounds_toArray, List.set_cons_zero, List.set_cons_succ]
      refine held_take (v := ?_) 5 rfl (by kernel_rfl) (.inl ⟨by rfl, ?_⟩) hHeld ?_
      rotate_left
      · intro w hSw; (try dsimp only at hSw); first | (go_simp; done) | (go_simp; with_reducible rfl)
      try simp only [Act.put, List.setIfInBounds_toArray, List.set_cons_zero, List.set_cons_succ]
      refine held_take (v := ?_) 6 rfl (by kernel_rfl) (.inl ⟨by rfl, ?_⟩) hHeld ?_
      rotate_left
      · intro w hSw; (try dsimp only at hSw); first | (go_simp; done) | (go_simp; with_reducible rfl)
      try simp only [Act.put, List.setIfInBounds_toArray, List.set_cons_zero, List.set_cons_succ]
      refine held_take (v := ?_) 7 rfl (by kernel_rfl) (.inl ⟨by rfl, ?_⟩) hHeld ?_
      rotate_left
      · intro w hSw; (try dsimp only at hSw); first | (go_simp; done) | (go_simp; with_reducible rfl)
      try simp only [Act.put, List.setIfInBounds_toArray, List.set_cons_zero, List.set_cons_succ]
      refine held_call 8 rfl (by kernel_rfl) (fun K hK => ?_)
      go_simp
      go_at_call 23; refine (law_same _ _ ls ls _ (by rw [HM.out]; exact A8.out) (by rw [HM.out]; have := D8.out.two.st.row.rd; rw [HM.out] at this; exact this)).mono ?_; rw [decide_eq_true (rfl : ls = ls)]; rintro e w9 ⟨rfl, hf⟩; have D9 := Lib.hid (D8.out.fr0 hf); have S9 := Lib.hid (And.intro D9.out.two.st.c1 D9.out.two.st.c2); clear hf
      refine hK.out _ _ ?_ (fun hHeld' => ?_)
      · first | exact ⟨z1, z2⟩ | exact S9.out | exact S10.out | exact S11.out
      clear hK K hHeld
      have hHeld := hHeld'
      clear hHeld'
      try simp only [Act.put, List.setIfInBounds_toArray, List.set_cons_zero, List.set_cons_succ]
      refine held_take (v := ?_) 9 rfl (by kernel_rfl) (.inl ⟨by rfl, ?_⟩) hHeld ?_
      rotate_left
      · intro w hSw; (try dsimp only at hSw); first | (go_simp; done) | (go_simp; with_reducible rfl)
      try simp only [Act.put, List.setIfInBounds_toArray, List.set_cons_zero, List.set_cons_succ]
      refine held_take (v := ?_) 10 rfl (by kernel_rfl) (.inl ⟨by rfl, ?_⟩) hHeld ?_
      rotate_left
      · intro w hSw; (try dsimp only at hSw); first | (go_simp; done) | (go_simp; with_reducible rfl)
      try simp only [Act.put, List.setIfInBounds_toArray, List.set_cons_zero, List.set_cons_succ]
      refine held_take (v := ?_) 11 rfl (by kernel_rfl) (.inl ⟨by rfl, ?_⟩) hHeld ?_
      rotate_left
      · intro w hSw; (try dsimp only at hSw); first | (go_simp; done) | (go_simp; with_reducible rfl)
      try simp only [Act.put, List.setIfInBounds_toArray, List.set_cons_zero, List.set_cons_succ]
      refine held_take (v := ?_) 12 rfl (by kernel_rfl) (.inl ⟨by rfl, ?_⟩) hHeld ?_
      rotate_left
      · intro w hSw; (try dsimp only at hSw); first | (go_simp; done) | (go_simp; with_reducible rfl)
      try simp only [Act.put, List.setIfInBounds_toArray, List.set_cons_zero, List.set_cons_succ]
      refine held_take (v := ?_) 14 rfl (by kernel_rfl) (.inl ⟨by rfl, ?_⟩) hHeld ?_
      rotate_left
      · intro w hSw; (try dsimp only at hSw); first | (go_simp; done) | (go_simp; with_reducible rfl)
      try simp only [Act.put, List.setIfInBounds_toArray, List.set_cons_zero, List.set_cons_succ]
      refine held_take (v := ?_) 15 rfl (by kernel_rfl) (.inl ⟨by rfl, ?_⟩) hHeld ?_
      rotate_left
      · intro w hSw; (try dsimp only at hSw); first | (go_simp; done) | (go_simp; with_reducible rfl)
      try simp only [Act.put, List.setIfInBounds_toArray, List.set_cons_zero, List.set_cons_succ]
      refine held_take (v := ?_) 16 rfl (by kernel_rfl) (.inl ⟨by rfl, ?_⟩) hHeld ?_
      rotate_left
      · intro w hSw; (try dsimp only at hSw); first | (go_simp; done) | (go_simp; with_reducible rfl)
      try simp only [Act.put, List.setIfInBounds_toArray, List.set_cons_zero, List.set_cons_succ]
      refine held_take (v := ?_) 17 rfl (by kernel_rfl) (.inl ⟨by rfl, ?_⟩) hHeld ?_
      rotate_left
      · intro w hSw; (try dsimp only at hSw); first | (go_simp; done) | (go_simp; with_reducible rfl)
      try simp only [Act.put, List.setIfInBounds_toArray, List.set_cons_zero, List.set_cons_succ]
      refine held_take (v := ?_) 18 rfl (by kernel_rfl) (.inl ⟨by rfl, ?_⟩) hHeld ?_
      rotate_left
      · intro w hSw; (try dsimp only at hSw); first | (go_simp; done) | (go_simp; with_reducible rfl)
      try simp only [Act.put, List.setIfInBounds_toArray, List.set_cons_zero, List.set_cons_succ]
      refine held_call 13 rfl (by kernel_rfl) (fun K hK => ?_)
      go_simp
      go_at_call 24; refine (dLen D9.out.one.st).mono ?_; rw [HM.out]; rintro e w' ⟨rfl, rfl⟩
      refine hK.out _ _ ?_ (fun hHeld' => ?_)
      · first | exact ⟨z1, z2⟩ | exact S9.out | exact S10.out | exact S11.out
      clear hK K hHeld
      have hHeld := hHeld'
      clear hHeld'
      try simp only [Act.put, List.setIfInBounds_toArray, List.set_cons_zero, List.set_cons_succ]
      refine held_take (v := ?_) 19 rfl (by kernel_rfl) (.inl ⟨by rfl, ?_⟩) hHeld ?_
      rotate_left
      · intro w hSw; (try dsimp only at hSw); first | (go_simp; done) | (go_simp; with_reducible rfl)
      try simp only [Act.put, List.setIfInBounds_toArray, List.set_cons_zero, List.set_cons_succ]
      refine held_take (v := ?_) 20 rfl (by kernel_rfl) (.inl ⟨by rfl, ?_⟩) hHeld ?_
      rotate_left
      · intro w hSw; (try dsimp only at hSw); first | (go_simp; done) | (go_simp; with_reducible rfl)
      try simp only [Act.put, List.setIfInBounds_toArray, List.set_cons_zero, List.set_cons_succ]
      refine held_take (v := ?_) 21 rfl (by kernel_rfl) (.inl ⟨by rfl, ?_⟩) hHeld ?_
      rotate_left
      · intro w hSw; (try dsimp only at hSw); first | (go_simp; done) | (go_simp; with_reducible rfl)
      try simp only [Act.put, List.setIfInBounds_toArray, List.set_cons_zero, List.set_cons_succ]
      refine held_take (v := ?_) 22 rfl (by kernel_rfl) (.inl ⟨by rfl, ?_⟩) hHeld ?_
      rotate_left
      · intro w hSw; (try dsimp only at hSw); first | (go_simp; done) | (go_simp; with_reducible rfl)
      try simp only [Act.put, List.setIfInBounds_toArray, List.set_cons_zero, List.set_cons_succ]
      refine held_take (v := ?_) 24 rfl (by kernel_rfl) (.inl ⟨by rfl, ?_⟩) hHeld ?_
      rotate_left
      · intro w hSw; (try dsimp only at hSw); first | (go_simp; done) | (go_simp; with_reducible rfl)
      try simp only [Act.put, List.setIfInBounds_toArray, List.set_cons_zero, List.set_cons_succ]
      refine held_take (v := ?_) 25 rfl (by kernel_rfl) (.inl ⟨by rfl, ?_⟩) hHeld ?_
      rotate_left
      · intro w hSw; (try dsimp only at hSw); first | (go_simp; done) | (go_simp; with_reducible rfl)
      try simp only [Act.put, List.setIfInBounds_toArray, List.set_cons_zero, List.set_cons_succ]
      refine held_take (v := ?_) 26 rfl (by kernel_rfl) (.inl ⟨by rfl, ?_⟩) hHeld ?_
      rotate_left
      · intro w hSw; (try dsimp only at hSw); first | (go_simp; done) | (go_simp; with_reducible rfl)
      try simp only [Act.put, List.setIfInBounds_toArray, List.set_cons_zero, List.set_cons_succ]
      refine held_take (v := ?_) 27 rfl (by kernel_rfl) (.inl ⟨by rfl, ?_⟩) hHeld ?_
      rotate_left
      · intro w hSw; (try dsimp only at hSw); first | (go_simp; done) | (go_simp; with_reducible rfl)
      try simp only [Act.put, List.setIfInBounds_toArray, List.set_cons_zero, List.set_cons_succ]
      refine held_take (v := ?_) 28 rfl (by kernel_rfl) (.inl ⟨by rfl, ?_⟩) hHeld ?_
      rotate_left
      · intro w hSw; (try dsimp only at hSw); first | (go_simp; done) | (go_simp; with_reducible rfl)
      try simp only [Act.put, List.setIfInBounds_toArray, List.set_cons_zero, List.set_cons_succ]
      refine held_take (v := ?_) 29 rfl (by kernel_rfl) (.inl ⟨by rfl, ?_⟩) hHeld ?_
      rotate_left
      · intro w hSw; (try dsimp only at hSw); first | (go_simp; done) | (go_simp; with_reducible rfl)
      try simp only [Act.put, List.setIfInBounds_toArray, List.set_cons_zero, List.set_cons_succ]
      refine held_take (v := ?_) 30 rfl (by kernel_rfl) (.inl ⟨by rfl, ?_⟩) hHeld ?_
      rotate_left
      · intro w hSw; (try dsimp only at hSw); first | (go_simp; done) | (go_simp; with_reducible rfl)
      try simp only [Act.put, List.setIfInBounds_toArray, List.set_cons_zero, List.set_cons_succ]
      refine held_take (v := ?_) 31 rfl (by kernel_rfl) (.inl ⟨by rfl, ?_⟩) hHeld ?_
      rotate_left
      · intro w hSw; (try dsimp only at hSw); first | (go_simp; done) | (go_simp; with_reducible rfl)
      try simp only [Act.put, List.setIfInBounds_toArray, List.set_cons_zero, List.set_cons_succ]
      refine held_take (v := ?_) 32 rfl (by kernel_rfl) (.inl ⟨by rfl, ?_⟩) hHeld ?_
      rotate_left
      · intro w hSw; (try dsimp only at hSw); first | (go_simp; done) | (go_simp; with_reducible rfl)
      try simp only [Act.put, List.setIfInBounds_toArray, List.set_cons_zero, List.set_cons_succ]
      refine held_take (v := ?_) 33 rfl (by kernel_rfl) (.inl ⟨by rfl, ?_⟩) hHeld ?_
      rotate_left
      · intro w hSw; (try dsimp only at hSw); first | (go_simp; done) | (go_simp; with_reducible rfl)
      try simp only [Act.put, List.setIfInBounds_toArray, List.set_cons_zero, List.set_cons_succ]
      refine held_call 23 rfl (by kernel_rfl) (fun K hK => ?_)
      go_simp
      go_at_call 25; refine (dWaits D9.out.one.st).mono ?_; rw [HM.out, Hsub.out]; rintro e w10 ⟨rfl, hf⟩; have D10 := Lib.hid (D9.out.fr0 hf); have S10 := Lib.hid (And.intro D10.out.two.st.c1 D10.out.two.st.c2); clear hf
      refine hK.out _ _ ?_ (fun hHeld' => ?_)
      · first | exact ⟨z1, z2⟩ | exact S9.out | exact S10.out | exact S11.out
      clear hK K hHeld
      have hHeld := hHeld'
      clear hHeld'
      try simp only [Act.put, List.setIfInBounds_toArray, List.set_cons_zero, List.set_cons_succ]
      refine held_take (v := ?_) 34 rfl (by kernel_rfl) (.inl ⟨by rfl, ?_⟩) hHeld ?_
      rotate_left
      · intro w hSw; (try dsimp only at hSw); first | (go_simp; done) | (go_simp; with_reducible rfl)
      try simp only [Act.put, List.setIfInBounds_toArray, List.set_cons_zero, List.set_cons_succ]
      refine held_take (v := ?_) 35 rfl (by kernel_rfl) (.inl ⟨by rfl, ?_⟩) hHeld ?_
      rotate_left
      · intro w hSw; (try dsimp only at hSw); first | (go_simp; done) | (go_simp; with_reducible rfl)
      try simp only [Act.put, List.setIfInBounds_toArray, List.set_cons_zero, List.set_cons_succ]
      refine held_take (v := ?_) 36 rfl (by kernel_rfl) (.inl ⟨by rfl, ?_⟩) hHeld ?_
      rotate_left
      · intro w hSw; (try dsimp only at hSw); first | (go_simp; done) | (go_simp; with_reducible rfl)
      try simp only [Act.put, List.setIfInBounds_toArray, List.set_cons_zero, List.set_cons_succ]
      refine held_take (v := ?_) 37 rfl (by kernel_rfl) (.inl ⟨by rfl, ?_⟩) hHeld ?_
      rotate_left
      · intro w hSw; (try dsimp only at hSw); first | (go_simp; done) | (go_simp; with_reducible rfl)
      try simp only [Act.put, List.setIfInBounds_toArray, List.set_cons_zero, List.set_cons_succ]
      refine held_take (v := ?_) 39 rfl (by kernel_rfl) (.inl ⟨by rfl, ?_⟩) hHeld ?_
      rotate_left
      · intro w hSw; (try dsimp only at hSw); first | (go_simp; done) | (go_simp; with_reducible rfl)
      try simp only [Act.put, List.setIfInBounds_toArray, List.set_cons_zero, List.set_cons_succ]
      refine held_call 38 rfl (by kernel_rfl) (fun K hK => ?_)
      go_simp
      go_at_call 26; refine (dUsedC D10.out.one.st).mono ?_; rintro e w11 ⟨rfl, hf⟩; have D11 := Lib.hid (D10.out.fr0 hf); have S11 := Lib.hid (And.intro D11.out.two.st.c1 D11.out.two.st.c2); clear hf
      refine hK.out _ _ ?_ (fun hHeld' => ?_)
      · first | exact ⟨z1, z2⟩ | exact S9.out | exact S10.out | exact S11.out
      clear hK K hHeld
      have hHeld := hHeld'
      clear hHeld'
      try simp only [Act.put, List.setIfInBounds_toArray, List.set_cons_zero, List.set_cons_succ]
      refine held_call 40 rfl (by kernel_rfl) (fun K hK => ?_)
      go_simp
      go_at_call 27; refine (rUsed D11.out.two.st).mono ?_; rintro e w' ⟨rfl, rfl⟩
      refine hK.out _ _ ?_ (fun hHeld' => ?_)
      · first | exact ⟨z1, z2⟩ | exact S9.out | exact S10.out | exact S11.out
      clear hK K hHeld
      have hHeld := hHeld'
      clear hHeld'
      try simp only [Act.put, List.setIfInBounds_toArray, List.set_cons_zero, List.set_cons_succ]
      refine held_take (v := ?_) 41 rfl (by kernel_rfl) (.inl ⟨by rfl, ?_⟩) hHeld ?_
      rotate_left
      · intro w hSw; (try dsimp only at hSw); first | (go_simp; done) | (go_simp; with_reducible rfl)
      try simp only [Act.put, List.setIfInBounds_toArray, List.set_cons_zero, List.set_cons_succ]
      refine held_take (v := ?_) 42 rfl (by kernel_rfl) (.inl ⟨by rfl, ?_⟩) hHeld ?_
      rotate_left
      · intro w hSw; (try dsimp only at hSw); first | (go_simp; done) | (go_simp; with_reducible rfl)
      try simp only [Act.put, List.setIfInBounds_toArray, List.set_cons_zero, List.set_cons_succ]
      refine held_done (by kernel_rfl) ?_
      try clear hHeld
      clear z1 z2 hwr
      generalize dUsed ls = U at *
      go_wp2
      go_roundw
      case rel => exact ⟨i + 1, p, v, ls, lasts, _, by omega, rfl, by go_num, D11, Lib.hid (by rw [HM.out]; exact HL2.out)⟩
      case measure => simp [intOf]; omega
    · have F1 := Lib.hid hD.out.one.fr
      clear hD hL
      obtain rfl : i = n := by omega
      go_wp2
      go_ret
      exact ⟨rfl, F1.out⟩
end Go.Proofs.Ythlcbhpdbcnmjaa
