/- The reference's disk. -/
import Derived.Test.YthlcbhpdbcnmjaaKeepR
namespace Go.XL
open Go.RowKit Go.Shelf
set_option linter.unusedVariables false
theorem hasNl_some {s : ByteArray} {k : Nat} (h : s.data.toList[k]? = some 10) : hasNl s = true := by
  unfold hasNl
  rw [decide_eq_true_iff]
  have h1 := Lib.indexByte_ge s.data.toList 10
  by_cases h2 : Lib.indexByte s.data.toList 10 = -1
  · exact absurd h (Lib.indexByte_none h2 k)
  · omega
theorem crashN_step {ls : List ByteArray} {n : Nat} {kp : Int} {u : ByteArray} (hu : ls[n]? = some u) :
    ((u.size : Int) + 1 ≤ kp → n + 1 + crashFrom (ls.drop (n + 1)) (kp - u.size - 1) = n + crashFrom (ls.drop n) kp) ∧ (¬ (u.size : Int) + 1 ≤ kp → n + crashFrom (ls.drop n) kp = n) := by
  obtain ⟨hk, hx⟩ := List.getElem?_eq_some_iff.1 hu
  rw [List.drop_eq_getElem_cons hk, hx]
  constructor
  · intro h1; rw [crashFrom, if_pos h1, show kp - (u.size : Int) - 1 = kp - (u.size + 1) by omega]; omega
  · intro h1; rw [crashFrom, if_neg h1]; rfl
theorem DStep.base {Ts Td : TypeId} {W0 W W' : World} {p : Nat} {v v' : Value} {room : Int} {ls : List ByteArray} {lasts : Nat} (h : DStep Ts Td W W' p v v' room ls lasts) (hf : Fr no W0 W) : DStep Ts Td W0 W' p v v' room ls lasts :=
  ⟨h.st, (hf.mono (fun _ _ f => f.elim)).trans' h.fr, fun g hg => (h.own g hg).elim .inl (fun e => .inr (Nat.le_trans hf.size e))⟩
end Go.XL
namespace Go.Proofs.Ythlcbhpdbcnmjaa
open Go.RowKit Go.Shelf Go.XL
set_option linter.unusedVariables false
set_option linter.unusedSimpArgs false
attribute [local go_sem] Oper.semAt_some
abbrev Rk := DkAt 9 48
abbrev RkS := DStep 9 48
variable {p : Nat} {v : Value} {room : Int} {ls : List ByteArray} {lasts : Nat} {w : World}

theorem rNew_bad (r : Int) (w : World) (h : r < 1 ∨ 1048576 < r) : Calls Try.prog 11 #[.int .i64 r] w fun e w' => e = .returned (.tuple #[.pointer none, .int .i64 1]) ∧ w = w' := by
  by_cases h1 : r < 1
  · go_enter Try.func11, Try.ntmps11
    go_wp2
    go_ret2
    exact ⟨rfl, rfl⟩
  · have h2 : 1048576 < r := by omega
    go_enter Try.func11, Try.ntmps11
    go_wp2
    go_ret2
    exact ⟨rfl, rfl⟩
theorem rNew (r : Int) (w : World) (h1 : 1 ≤ r) (h2 : r ≤ 1048576) : Calls Try.prog 11 #[.int .i64 r] w fun e w' => ∃ p v, e = .returned (.tuple #[.pointer (some ⟨p, 0, none⟩), .int .i64 0]) ∧ Rk w' p v r [] 0 ∧ Fr no w w' ∧ ∀ g, dOwn p v g → w.heap.size ≤ g := by
  go_enter Try.func11, Try.ntmps11
  go_wp2
  go_ret2
  refine ⟨_, _, rfl, ⟨World.alloc_heap_new w _, by simpa using Sl.nil _ _ _, by simp [Value.ownBlock], Nat.le_refl _, by simp [dUsed]; omega, h1, h2⟩, (Fr.refl no w).alloc _, fun g hg => ?_⟩
  rcases hg with rfl | hg
  · exact Nat.le_refl _
  · simp [Value.ownBlock] at hg

theorem rFind (s : ByteArray) (hs : s.size ≤ 1000000) (w : World) : Calls Try.prog 29 #[.string s, .int .u8 10, .int .i64 0] w fun e w' => ∃ r : Int, e = .returned (.int .i64 r) ∧ decide (0 ≤ r) = hasNl s ∧ w = w' := by
  obtain ⟨m, hm⟩ : ∃ m : Nat, s.size = m := ⟨_, rfl⟩
  go_enter Try.func29, Try.ntmps29
  go_wp2_with fail
  go_loopw [7] (fun cv wq => ∃ c : Nat, c ≤ s.size ∧ cv = .int .i64 c ∧ w = wq ∧ Hid (∀ j : Nat, j < c → s.data.toList[j]? ≠ some 10)) (fun cv _ => s.size - (intOf cv).toNat)
  case atStart => exact ⟨0, Nat.zero_le _, rfl, rfl, Lib.hid (fun j h => by omega)⟩
  case round =>
    obtain ⟨c, hc, rfl, rfl, hC⟩ := hrel
    by_cases hcs : c < s.size
    · have hgc : s.data.toList[c]? = some (s[c]'hcs) := by
        rw [Array.getElem?_toList]
        exact Array.getElem?_eq_getElem hcs
      by_cases h10 : (s[c]'hcs) = 10
      · have hq : (((s[c]'hcs).toNat : Int) == 10) = true := by rw [h10]; rfl
        have Hnl := Lib.hid (hasNl_some (hgc.trans (by rw [h10])))
        clear hC hgc
        go_wp2
        go_ret
        exact ⟨_, rfl, by rw [Hnl.out]; simp, rfl⟩
      · have hq : (((s[c]'hcs).toNat : Int) == 10) = false := by
          rw [beq_eq_false_iff_ne]
          intro h
          refine h10 (UInt8.toNat_inj.1 ?_)
          have h2 : (s[c]'hcs).toNat = 10 := by omega
          rw [h2]; rfl
        have hC2 : Hid (∀ j : Nat, j < c + 1 → s.data.toList[j]? ≠ some 10) := Lib.hid (fun j hj => by
          rcases Nat.lt_succ_iff_lt_or_eq.1 hj with h | rfl
          · exact hC.out j h
          · rw [hgc]; intro e; exact h10 (Option.some.inj e))
        clear hgc hC
        go_wp2
        go_roundw
        case rel => exact ⟨c + 1, by omega, by go_num, trivial, hC2⟩
        case measure => simp [intOf]; omega
    · obtain rfl : c = s.size := by omega
      have hnl : hasNl s = false := hasNl_none (fun j h => by
        by_cases hj : j < s.size
        · exact hC.out j hj h
        · rw [List.getElem?_eq_none (by rw [Array.length_toList]; exact Nat.le_of_not_lt hj)] at h; cases h)
      have Hnl := Lib.hid hnl
      clear hnl hC
      go_wp2
      go_ret
      exact ⟨_, rfl, by rw [Hnl.out]; decide, rfl⟩

theorem rUsed (h : Rk w p v room ls lasts) : Calls Try.prog 27 #[.pointer (some ⟨p, 0, none⟩)] w fun e w' => e = .returned (.int .i64 (dUsed ls : Nat)) ∧ w = w' := by
  have c1 := h.c1
  have hlen := h.len
  obtain ⟨ao, cap, rfl, hcap, hmx⟩ := h.row.cap
  have H := Lib.hid h
  have hU := h.usedN
  clear h
  generalize hn : ls.length = n at *
  have Hn := Lib.hid hn
  clear hn
  go_enter Try.func27, Try.ntmps27
  go_wp2_with fail
  go_loopw [3, 4] (fun nv iv wr => ∃ i : Nat, i ≤ n ∧ iv = .int .i64 i ∧ nv = .int .i64 (dUsed (ls.take i) : Nat) ∧ w = wr) (fun _ iv _ => n - (intOf iv).toNat)
  case atStart => exact ⟨0, Nat.zero_le _, rfl, rfl, rfl⟩
  case round =>
    obtain ⟨i, hi, rfl, rfl, rfl⟩ := hrel
    by_cases hlt : i < n
    · have hx1 : i < ls.length := by rw [Hn.out]; exact hlt
      obtain ⟨g0, off0, c0', he, _, _, hx⟩ := H.out.row.rd.form (by omega)
      rw [Hn.out] at he
      cases he
      obtain ⟨s, hzk⟩ : ∃ s, ls[i]? = some s := ⟨ls[i], by simp [hx1]⟩
      have hcx : w.cell? ⟨g0, off0 + i, none⟩ = some (.string s) := hx i _ (by simp [hzk])
      have hun : dUsed (ls.take (i + 1)) = dUsed (ls.take i) + (s.size + 1) := by rw [List.take_add_one, hzk, dUsed_append]; simp [dUsed]
      have hle : dUsed (ls.take (i + 1)) ≤ 1048576 := Nat.le_trans (dUsed_take ls _) hU
      obtain ⟨U, hU1⟩ : ∃ U : Nat, dUsed (ls.take i) = U := ⟨_, rfl⟩
      rw [hU1] at hun ⊢
      have Hun := Lib.hid hun
      have hb : U + (s.size + 1) ≤ 1048576 := by omega
      clear hx hx1 hun hle hU1 hzk
      go_wp2
      go_roundw
      case rel => exact ⟨i + 1, by omega, by go_num, by rw [Hun.out]; go_num, trivial⟩
      case measure => simp [intOf]; omega
    · obtain rfl : i = n := by omega
      rw [List.take_of_length_le (by rw [Hn.out]; exact Nat.le_refl _)]
      go_wp2
      go_ret
      exact ⟨rfl, rfl⟩

theorem rSync (h : Rk w p v room ls lasts) : Calls Try.prog 15 #[.pointer (some ⟨p, 0, none⟩)] w fun e w' => ∃ x, e = .returned x ∧ RkS w w' p v v room ls ls.length := by
  have c1 := h.c1
  have c2 := h.c2
  have f2 := h.fz 2
  have hf : Fr (fun g => g = p) w (w.setCell ⟨p, 2, none⟩ (.int .i64 ls.length)) := (Fr.refl (fun g => g = p) w).setCell (p := ⟨p, 2, none⟩) (fun _ => rfl) _
  have hfin : RkS w (w.setCell ⟨p, 2, none⟩ (.int .i64 ls.length)) p v v room ls ls.length := ⟨⟨heap_setC _ h.cell, h.row.fr hf (fun g hg e => h.ne (by rw [hg, e])), h.ne, Nat.le_refl _, h.used, h.room⟩, hf.mono (fun _ _ e => .inl e), fun g hg => .inl hg⟩
  have Hfin := Lib.hid hfin
  obtain ⟨ao, cap, rfl, _, _⟩ := h.row.cap
  clear h hf hfin
  generalize hn : ls.length = n at *
  have Hn := Lib.hid hn
  clear hn
  go_enter Try.func15, Try.ntmps15
  go_wp2
  go_end0
  exact ⟨_, rfl, Hfin.out⟩

/-- other lines, in a slice that has just been made -/
theorem rLay {w3 : World} {v' : Value} {ls' : List ByteArray} (h : Rk w p v room ls lasts) (hf : Fr no w w3) (hs : Sl w3 9 1 v' ls'.length (ls'.map Value.string)) (hfr : ∀ g, v'.ownBlock = some g → w.heap.size ≤ g)
    (hl : lasts ≤ ls'.length) (hu : (dUsed ls' : Int) ≤ room) :
    w3.cell? ⟨p, 1, none⟩ = some v ∧ w3.frozen? ⟨p, 1, none⟩ = false ∧ RkS w (w3.setCell ⟨p, 1, none⟩ v') p v v' room ls' lasts := by
  have h3 := h.fr0 hf
  have hp := h.lt p (.inl rfl)
  have hne : v'.ownBlock ≠ some p := fun e => by have := hfr p e; omega
  have hf1 : Fr (fun g => g = p) w3 (w3.setCell ⟨p, 1, none⟩ v') := (Fr.refl (fun g => g = p) w3).setCell (p := ⟨p, 1, none⟩) (fun _ => rfl) _
  exact ⟨h3.c1, h3.fz 1, ⟨heap_setC _ h3.cell, hs.fr hf1 (fun g hg e => hne (by rw [hg, e])), hne, hl, hu, h.room⟩, (hf.mono (fun _ _ f => f.elim)).trans' (hf1.mono (fun _ _ e => .inl e)), fun g hg => hg.elim (fun e => .inl (.inl e)) (fun e => .inr (hfr g e))⟩

theorem rLay2 {w3 : World} {v' : Value} {ls' : List ByteArray} {m : Nat} (h : Rk w p v room ls lasts) (hf : Fr no w w3) (hs : Sl w3 9 1 v' ls'.length (ls'.map Value.string)) (hfr : ∀ g, v'.ownBlock = some g → w.heap.size ≤ g)
    (hl : m ≤ ls'.length) (hu : (dUsed ls' : Int) ≤ room) :
    w3.cell? ⟨p, 1, none⟩ = some v ∧ w3.frozen? ⟨p, 1, none⟩ = false ∧ (w3.setCell ⟨p, 1, none⟩ v').cell? ⟨p, 2, none⟩ = some (.int .i64 lasts) ∧ (w3.setCell ⟨p, 1, none⟩ v').frozen? ⟨p, 2, none⟩ = false ∧
    RkS w ((w3.setCell ⟨p, 1, none⟩ v').setCell ⟨p, 2, none⟩ (.int .i64 m)) p v v' room ls' m := by
  have h3 := h.fr0 hf
  have hp := h.lt p (.inl rfl)
  have hne : v'.ownBlock ≠ some p := fun e => by have := hfr p e; omega
  have hf1 : Fr (fun g => g = p) w3 (w3.setCell ⟨p, 1, none⟩ v') := (Fr.refl (fun g => g = p) w3).setCell (p := ⟨p, 1, none⟩) (fun _ => rfl) _
  have hf2 : Fr (fun g => g = p) (w3.setCell ⟨p, 1, none⟩ v') ((w3.setCell ⟨p, 1, none⟩ v').setCell ⟨p, 2, none⟩ (.int .i64 m)) := (Fr.refl (fun g => g = p) _).setCell (p := ⟨p, 2, none⟩) (fun _ => rfl) _
  have hb1 := heap_setC (j := 1) v' h3.cell
  exact ⟨h3.c1, h3.fz 1, cell_of_block hb1 rfl, frozen_of_block hb1, ⟨heap_setC _ hb1, (hs.fr hf1 (fun g hg e => hne (by rw [hg, e]))).fr hf2 (fun g hg e => hne (by rw [hg, e])), hne, hl, hu, h.room⟩, ((hf.mono (fun _ _ f => f.elim)).trans' (hf1.mono (fun _ _ e => .inl e))).trans' (hf2.mono (fun _ _ e => .inl e)), fun g hg => hg.elim (fun e => .inl (.inl e)) (fun e => .inr (hfr g e))⟩

set_option maxHeartbeats 2000000 in
theorem rWrite (s : ByteArray) (hs : s.size ≤ 1000000) (h : Rk w p v room ls lasts) : Calls Try.prog 13 #[.pointer (some ⟨p, 0, none⟩), .string s] w fun e w' =>
    e = .returned (.int .i64 (dWriteR room ls s)) ∧ ∃ v', RkS w w' p v v' room (dWriteL room ls s) lasts := by
  have hres : ∀ r : Int, dWriteR room ls s = r → Hid (dWriteR room ls s = r) := fun r h => h
  have hno : ∀ r : Int, r ≠ 0 → dWriteR room ls s = r → ∀ w', Fr no w w' → ∃ v', RkS w w' p v v' room (dWriteL room ls s) lasts := fun r hr0 hr w' hf => by
    rw [dWriteL, hr, if_neg hr0]
    exact ⟨v, h.fr0 hf, hf.mono (fun _ _ f => f.elim), fun g hg => .inl hg⟩
  have Hno := Lib.hid hno
  clear hno
  have H := Lib.hid h
  have hroom := h.room
  have hused := h.usedN
  clear h
  cases hn : hasNl s
  · have Hn := Lib.hid hn
    clear hn
    have hdw : Fr no w w.drew := (Fr.refl no w).drewN 1
    have H1 := Lib.hid (H.out.fr0 hdw)
    have c0' := H1.out.c0
    have Hu := Lib.hid (rUsed H1.out)
    obtain ⟨U, hU⟩ : ∃ U : Nat, dUsed ls = U := ⟨_, rfl⟩
    have HU := Lib.hid hU
    rw [hU] at Hu hused
    have hsub : IntKind.i64.wrap (room - (U : Int)) = room - U := IntWalk.i64_in _ (by omega)
    have hadd : IntKind.i64.wrap ((s.size : Int) + 1) = (s.size : Int) + 1 := IntWalk.i64_in _ (by omega)
    clear hU hdw
    go_enter Try.func13, Try.ntmps13
    go_wp2_with fail
    refine (rFind s hs w).mono ?_
    rintro e w' ⟨r, rfl, hr, rfl⟩
    rw [Hn.out, decide_eq_false_iff_not] at hr
    have hr' : r < 0 := by omega
    go_wp2_with fail
    refine wp_held (fun w' => w'.cell? ⟨p, 0, none⟩ = some (.int .i64 room)) (by kernel_rfl) ?_ (fun hHeld => ?_)
    · exact c0'
    refine held_take (v := ?_) 0 rfl (by kernel_rfl) (.inl ⟨by rfl, ?_⟩) hHeld ?_
    rotate_left
    · intro w hSw; (try dsimp only at hSw); first | (go_simp; done) | (go_simp; with_reducible rfl)
    try simp only [Act.put, List.setIfInBounds_toArray, List.set_cons_zero, List.set_cons_succ]
    refine held_take (v := ?_) 1 rfl (by kernel_rfl) (.inl ⟨by rfl, ?_⟩) hHeld ?_
    rotate_left
    · intro w hSw; (try dsimp only at hSw); first | (go_simp; done) | (go_simp; with_reducible rfl)
    try simp only [Act.put, List.setIfInBounds_toArray, List.set_cons_zero, List.set_cons_succ]
    refine held_take (v := ?_) 2 rfl (by kernel_rfl) (.inl ⟨by rfl, ?_⟩) hHeld ?_
    rotate_left
    · intro w hSw; (try dsimp only at hSw); first | (go_simp; done) | (go_simp; with_reducible rfl)
    try simp only [Act.put, List.setIfInBounds_toArray, List.set_cons_zero, List.set_cons_succ]
    refine held_take (v := ?_) 3 rfl (by kernel_rfl) (.inl ⟨by rfl, ?_⟩) hHeld ?_
    rotate_left
    · intro w hSw; (try dsimp only at hSw); first | (go_simp; done) | (go_simp; with_reducible rfl)
    try simp only [Act.put, List.setIfInBounds_toArray, List.set_cons_zero, List.set_cons_succ]
    refine held_take (v := ?_) 4 rfl (by kernel_rfl) (.inl ⟨by rfl, ?_⟩) hHeld ?_
    rotate_left
    · intro w hSw; (try dsimp only at hSw); first | (go_simp; done) | (go_simp; with_reducible rfl)
    try simp only [Act.put, List.setIfInBounds_toArray, List.set_cons_zero, List.set_cons_succ]
    refine held_take (v := ?_) 5 rfl (by kernel_rfl) (.inl ⟨by rfl, ?_⟩) hHeld ?_
    rotate_left
    · intro w hSw; (try dsimp only at hSw); first | (go_simp; done) | (go_simp; with_reducible rfl)
    try simp only [Act.put, List.setIfInBounds_toArray, List.set_cons_zero, List.set_cons_succ]
    refine held_take (v := ?_) 6 rfl (by kernel_rfl) (.inl ⟨by rfl, ?_⟩) hHeld ?_
    rotate_left
    · intro w hSw; (try dsimp only at hSw); first | (go_simp; done) | (go_simp; with_reducible rfl)
    try simp only [Act.put, List.setIfInBounds_toArray, List.set_cons_zero, List.set_cons_succ]
    refine held_take (v := ?_) 7 rfl (by kernel_rfl) (.inl ⟨by rfl, ?_⟩) hHeld ?_
    rotate_left
    · intro w hSw; (try dsimp only at hSw); first | (go_simp; done) | (go_simp; with_reducible rfl)
    try simp only [Act.put, List.setIfInBounds_toArray, List.set_cons_zero, List.set_cons_succ]
    refine held_call 8 rfl (by kernel_rfl) (fun K hK => ?_)
    go_simp
    go_at_call 27; refine (Hu.out).mono ?_; rintro e w2 ⟨rfl, rfl⟩
    refine hK.out _ _ ?_ (fun hHeld' => ?_)
    · exact c0'
    clear hK K hHeld
    have hHeld := hHeld'
    clear hHeld'
    try simp only [Act.put, List.setIfInBounds_toArray, List.set_cons_zero, List.set_cons_succ]
    refine held_take (v := ?_) 9 rfl (by kernel_rfl) (.inl ⟨by rfl, ?_⟩) hHeld ?_
    rotate_left
    · intro w hSw; (try dsimp only at hSw); first | (go_simp; done) | (go_simp; with_reducible rfl)
    try simp only [Act.put, List.setIfInBounds_toArray, List.set_cons_zero, List.set_cons_succ]
    refine held_take (v := ?_) 10 rfl (by kernel_rfl) (.inl ⟨by rfl, ?_⟩) hHeld ?_
    rotate_left
    · intro w hSw; (try dsimp only at hSw); first | (go_simp; done) | (go_simp; with_reducible rfl)
    try simp only [Act.put, List.setIfInBounds_toArray, List.set_cons_zero, List.set_cons_succ]
    refine held_done (by kernel_rfl) ?_
    try clear hHeld
    clear c0' hsub hadd Hu
    have F2 := Lib.hid ((Fr.refl no w).drewN 1)
    change Hid (Fr no w w.drew) at F2
    generalize w.drew = w2 at *
    by_cases hfull : room - (U : Int) < (s.size : Int) + 1
    · have R := hres 6 (by rw [dWriteR, if_neg (by rw [Hn.out]; decide), HU.out, if_pos hfull])
      clear hres
      go_wp2
      go_ret
      rw [R.out]
      exact ⟨rfl, Hno.out 6 (by decide) R.out w2 F2.out⟩
    · have R := hres 0 (by rw [dWriteR, if_neg (by rw [Hn.out]; decide), HU.out, if_neg hfull])
      clear hres Hno
      have hrow := H1.out.row
      have hlen := H1.out.len
      obtain ⟨ao, cap, hv, hc1, hm1⟩ := hrow.cap
      subst hv
      have c1 := H1.out.c1
      have Hrow := Lib.hid hrow.rd
      obtain ⟨i0, hi0, hz0', hz1', hz2'⟩ := info_parts (show (Try.prog.info? 9).map (fun i => (i.zero, i.size, i.bytes)) = some (some (.string ByteArray.empty), 1, 16) by kernel_rfl)
      generalize hn' : ls.length = n at *
      have Hn' := Lib.hid hn'
      clear hn' hrow
      have hO0 := ow_empty w2 9 1
      have HO0 := Lib.hid hO0
      have c1' : (w2.alloc (.cells #[] 9)).cell? ⟨p, 1, none⟩ = some (.slice ao n cap) := hO0.fr.cell c1 (fun f => f)
      clear hO0 c1
      go_wp2_with (at_builtin; refine wpList_append_all (w2.alloc (.cells #[] 9)) rfl _ _ 40 rfl 9 i0 (.string ByteArray.empty) 1 16 Try.underlying40 hi0 hz0' hz1' hz2' rfl (by decide) _ _ _ rfl HO0.out.sl _ _ _ rfl (Hrow.out.fr HO0.out.fr (fun _ _ _ f => f)) (by simp [Value.oneCell']) (by unfold maxLen; omega) (by omega) ?_)
      intro ao3 cap3 w3 hs3 hf3 ho3 _
      have HO3 := Lib.hid (HO0.out.app hs3 hf3 (ho3.elim .inl (fun h => .inr (fun g hg => by rw [World.size_alloc]; exact h g hg))))
      clear hs3 hf3 ho3 HO0 Hrow c1'
      go_wp2_with (at_builtin; refine wpList_append_one w3 (.string s) 9 rfl _ _ 40 rfl 9 i0 (.string ByteArray.empty) 16 Try.underlying40 hi0 hz0' hz1' hz2' rfl _ n _ rfl HO3.out.sl rfl rfl (by unfold maxLen; omega) (by omega) ?_)
      intro ao4 cap4 w4 hs4 hf4 ho4 _
      have hO4 := HO3.out.app hs4 hf4 ho4
      have hL : dWriteL room ls s = ls ++ [s] := by rw [dWriteL, R.out, if_pos rfl]
      have hLn : (ls ++ [s]).length = n + 1 := by rw [List.length_append, Hn'.out]; rfl
      obtain ⟨d1, e1, hS⟩ := rLay (ls' := ls ++ [s]) H1.out hO4.fr (by rw [hLn]; simpa using hO4.sl) hO4.fresh (by have := H1.out.lasts; rw [hLn]; rw [Hn'.out] at this; omega) (by rw [dUsed_append, HU.out]; simp only [dUsed]; omega)
      have HS := Lib.hid (hS.base F2.out)
      have HL := Lib.hid hL
      clear hs4 hf4 ho4 hO4 hL hLn hS HO3 hi0 hz0' hz1' hz2'
      go_wp2
      go_ret
      rw [R.out, HL.out, Hn'.out]
      exact ⟨rfl, _, HS.out⟩
  · have Hn := Lib.hid hn
    clear hn
    have R := hres 2 (by rw [dWriteR, if_pos Hn.out])
    clear hres
    go_enter Try.func13, Try.ntmps13
    go_wp2_with fail
    refine (rFind s hs w).mono ?_
    rintro e w' ⟨r, rfl, hr, rfl⟩
    rw [Hn.out, decide_eq_true_iff] at hr
    go_wp2
    go_ret
    rw [R.out]
    exact ⟨rfl, Hno.out 2 (by decide) R.out w (Fr.refl _ _)⟩

theorem rCut (k : Int) (h : Rk w p v room ls lasts) : Calls Try.prog 19 #[.pointer (some ⟨p, 0, none⟩), .int .i64 k] w fun e w' =>
    e = .returned (.int .i64 (dCutR ls lasts k)) ∧ ∃ v', RkS w w' p v v' room (dCutL ls lasts k) (dCutN ls lasts k) := by
  have hll := h.lasts
  have hlen := h.len
  obtain ⟨ao, cap, hv, hcap, hmx⟩ := h.row.cap
  subst hv
  have H := Lib.hid h
  have c1 := h.c1
  have c2 := h.c2
  clear h
  by_cases hr : dCutR ls lasts k = 0
  · have hl : dCutL ls lasts k = ls.take k.toNat := if_pos hr
    have hn : dCutN ls lasts k = k.toNat := if_pos hr
    rw [hl, hn, hr]
    have h0 : ¬ (k < 0 ∨ (ls.length : Int) < k) := fun e => by rw [dCutR, if_pos e] at hr; cases hr
    have h1 : ¬ lasts < ls.length := fun e => by rw [dCutR, if_neg h0, if_pos e] at hr; cases hr
    clear hr hl hn
    obtain ⟨m, rfl⟩ := Int.eq_ofNat_of_zero_le (by omega : 0 ≤ k)
    rw [show (m : Int).toNat = m by omega]
    obtain rfl : lasts = ls.length := by omega
    have hm : m ≤ ls.length := by omega
    have HT : Hid ((ls.take m).length = m) := Lib.hid (by rw [List.length_take]; omega)
    have RT := Lib.hid (H.out.row.rd.pre m hm)
    rw [← List.map_take] at RT
    obtain ⟨i0, hi0, hz0', hz1', hz2'⟩ := info_parts (show (Try.prog.info? 9).map (fun i => (i.zero, i.size, i.bytes)) = some (some (.string ByteArray.empty), 1, 16) by kernel_rfl)
    have q1 := run_cutHi (P := Try.prog) 40 9 i0 Try.underlying40 hi0 ao ls.length cap m (by omega) H.out.row.rd.nilcap
    have hk0 : ¬ (m : Int) < 0 := by omega
    have hk1 : ¬ (ls.length : Int) < m := by omega
    clear h0 h1
    generalize hn : ls.length = n at *
    have Hn := Lib.hid hn
    clear hn
    go_enter Try.func19, Try.ntmps19
    go_wp2_with fail
    go_quiet (fail)
    have F2 := Lib.hid ((Fr.refl no w).drewN nq)
    have H1 := Lib.hid (H.out.fr0 F2.out)
    have R1 := Lib.hid (RT.out.fr F2.out (fun _ _ _ f => f))
    clear c1 c2 RT
    generalize w.drewN nq = w2 at *
    have c1 := H1.out.c1
    have hO0 := ow_empty w2 9 1
    have HO0 := Lib.hid hO0
    have c1' : (w2.alloc (.cells #[] 9)).cell? ⟨p, 1, none⟩ = some (.slice ao n cap) := hO0.fr.cell c1 (fun f => f)
    clear hO0 c1
    go_wp2_with (at_builtin; refine wpList_append_all (w2.alloc (.cells #[] 9)) rfl _ _ 40 rfl 9 i0 (.string ByteArray.empty) 1 16 Try.underlying40 hi0 hz0' hz1' hz2' rfl (by decide) _ _ _ rfl HO0.out.sl _ _ _ rfl (R1.out.fr HO0.out.fr (fun _ _ _ f => f)) (fun u hu => by obtain ⟨x, _, rfl⟩ := List.mem_map.1 hu; rfl) (by unfold maxLen; omega) (by omega) ?_)
    intro ao3 cap3 w3 hs3 hf3 ho3 _
    have hO3 := HO0.out.app hs3 hf3 (ho3.elim .inl (fun h => .inr (fun g hg => by rw [World.size_alloc]; exact h g hg)))
    obtain ⟨d1, e1, d2, e2, hS⟩ := rLay2 (ls' := ls.take m) (m := m) H1.out hO3.fr (by rw [HT.out, List.map_take]; exact hO3.sl) hO3.fresh (by rw [HT.out]; exact Nat.le_refl _) (by have := dUsed_take ls m; have := H1.out.used; omega)
    have HS := Lib.hid (hS.base F2.out)
    clear hs3 hf3 ho3 hO3 hS HO0 hi0 hz0' hz1' hz2' c1' q1
    go_wp2
    go_ret
    exact ⟨rfl, _, HS.out⟩
  · have hl : dCutL ls lasts k = ls := if_neg hr
    have hn : dCutN ls lasts k = lasts := if_neg hr
    rw [hl, hn]
    have hno : ∀ w', Fr no w w' → RkS w w' p (.slice ao ls.length cap) (.slice ao ls.length cap) room ls lasts := fun w' hf => ⟨H.out.fr0 hf, hf.mono (fun _ _ f => f.elim), fun g hg => .inl hg⟩
    have Hno := Lib.hid hno
    obtain ⟨r1, hr1⟩ : ∃ r1, dCutR ls lasts k = r1 := ⟨_, rfl⟩
    rw [hr1] at hr ⊢
    rw [dCutR] at hr1
    clear hl hn hno H
    generalize ls.length = n at *
    by_cases h0 : k < 0
    · rw [if_pos (.inl h0)] at hr1
      subst hr1
      go_enter Try.func19, Try.ntmps19
      go_wp2
      go_ret
      exact ⟨rfl, _, Hno.out _ (Fr.refl _ _)⟩
    · by_cases h1 : (n : Int) < k
      · rw [if_pos (.inr h1)] at hr1
        subst hr1
        go_enter Try.func19, Try.ntmps19
        go_wp2
        go_ret
        exact ⟨rfl, _, Hno.out _ (Fr.refl _ _)⟩
      · rw [if_neg (by omega)] at hr1
        by_cases h2 : lasts < n
        · rw [if_pos h2] at hr1
          subst hr1
          go_enter Try.func19, Try.ntmps19
          go_wp2_with fail
          go_quiet (fail)
          go_wp2
          go_ret
          exact ⟨rfl, _, Hno.out _ ((Fr.refl no w).drewN _)⟩
        · rw [if_neg h2] at hr1; exact absurd hr1.symm hr

set_option maxHeartbeats 1000000 in
theorem rCrash (keep : Int) (hk1 : keep ≤ 9223372036854775807) (hk0 : -9223372036854775808 ≤ keep) (h : Rk w p v room ls lasts) : Calls Try.prog 17 #[.pointer (some ⟨p, 0, none⟩), .int .i64 keep] w fun e w' =>
    ∃ x v', e = .returned x ∧ RkS w w' p v v' room (ls.take (crashN ls lasts keep)) (crashN ls lasts keep) := by
  have hll := h.lasts
  have hlen := h.len
  have hU := h.usedN
  obtain ⟨ao, cap, hv, hcap, hmx⟩ := h.row.cap
  subst hv
  have H := Lib.hid h
  have c1 := h.c1
  have c2 := h.c2
  have hM := crashN_le keep h.lasts
  clear h
  obtain ⟨M, hMe⟩ : ∃ M, crashN ls lasts keep = M := ⟨_, rfl⟩
  rw [hMe] at hM ⊢
  have HMe := Lib.hid hMe
  clear hMe
  obtain ⟨i0, hi0, hz0', hz1', hz2'⟩ := info_parts (show (Try.prog.info? 9).map (fun i => (i.zero, i.size, i.bytes)) = some (some (.string ByteArray.empty), 1, 16) by kernel_rfl)
  have q1 := run_cutHi (P := Try.prog) 40 9 i0 Try.underlying40 hi0 ao ls.length cap M (by omega) H.out.row.rd.nilcap
  generalize hn : ls.length = n at *
  have Hn := Lib.hid hn
  clear hn
  go_enter Try.func17, Try.ntmps17
  go_wp2_with fail
  go_loopw [1, 4] (fun kv nv wr => ∃ (i : Nat) (kp : Int), i ≤ n ∧ lasts ≤ i ∧ kv = .int .i64 kp ∧ nv = .int .i64 i ∧ -9223372036854775808 ≤ kp ∧ kp ≤ 9223372036854775807 ∧ Hid (i + crashFrom (ls.drop i) kp = M) ∧ w = wr) (fun _ nv _ => n - (intOf nv).toNat)
  case atStart => exact ⟨lasts, keep, hll, Nat.le_refl _, rfl, rfl, hk0, hk1, HMe, rfl⟩
  case round =>
    obtain ⟨i, kp, hi, hil, rfl, rfl, hkp0, hkp1, hC, rfl⟩ := hrel
    by_cases hlt : i < n
    · have hx1 : i < ls.length := by rw [Hn.out]; exact hlt
      obtain ⟨g0, off0, c0', he, _, _, hx⟩ := H.out.row.rd.form (by rw [Hn.out]; omega)
      rw [Hn.out] at he
      cases he
      obtain ⟨s, hzk⟩ : ∃ s, ls[i]? = some s := ⟨ls[i], by simp [hx1]⟩
      have hcx : w.cell? ⟨g0, off0 + i, none⟩ = some (.string s) := hx i _ (by simp [hzk])
      have hsz : s.size + 1 ≤ dUsed ls := dUsed_mem (List.mem_of_getElem? hzk)
      obtain ⟨t1, t2⟩ := crashN_step (n := i) (kp := kp) hzk
      clear hx hx1 hzk
      by_cases hfit : (s.size : Int) + 1 ≤ kp
      · have hC2 : Hid (i + 1 + crashFrom (ls.drop (i + 1)) (kp - s.size - 1) = M) := Lib.hid ((t1 hfit).trans hC.out)
        clear t1 t2 hC
        go_wp2
        go_roundw
        case rel => exact ⟨i + 1, kp - s.size - 1, by omega, by omega, rfl, by go_num, by omega, by omega, hC2, trivial⟩
        case measure => simp [intOf]; omega
      · obtain rfl : i = M := (t2 hfit).symm.trans hC.out
        clear t1 t2 hC
        have HT : Hid ((ls.take i).length = i) := Lib.hid (by rw [List.length_take, Hn.out]; omega)
        have RT : Rd w 1 (.slice (some ⟨g0, off0, none⟩) i cap) i ((ls.map Value.string).take i) := Rd.pre (by have := H.out.row.rd; rw [Hn.out] at this; exact this) i (by omega)
        have hO0 := ow_empty w 9 1
        have c1' : (w.alloc (.cells #[] 9)).cell? ⟨p, 1, none⟩ = some (.slice (some ⟨g0, off0, none⟩) n cap) := hO0.fr.cell c1 (fun f => f)
        have HO0 := Lib.hid hO0
        have RT' := Lib.hid (RT.fr hO0.fr (fun _ _ _ f => f))
        clear hO0 RT
        go_wp2_with (at_builtin; refine wpList_append_all (w.alloc (.cells #[] 9)) rfl _ _ 40 rfl 9 i0 (.string ByteArray.empty) 1 16 Try.underlying40 hi0 hz0' hz1' hz2' rfl (by decide) _ _ _ rfl HO0.out.sl _ _ _ rfl RT'.out (fun u hu => by obtain ⟨x, _, rfl⟩ := List.mem_map.1 (List.mem_of_mem_take hu); rfl) (by unfold maxLen; omega) (by omega) ?_)
        intro ao3 cap3 w3 hs3 hf3 ho3 _
        have hO3 := HO0.out.app hs3 hf3 (ho3.elim .inl (fun h => .inr (fun g hg => by rw [World.size_alloc]; exact h g hg)))
        obtain ⟨d1, e1, d2, e2, hS⟩ := rLay2 (ls' := ls.take i) (m := i) H.out hO3.fr (by rw [HT.out, List.map_take]; exact hO3.sl) hO3.fresh (by rw [HT.out]; exact Nat.le_refl _) (by have := dUsed_take ls i; have := H.out.used; omega)
        have HS := Lib.hid hS
        clear hs3 hf3 ho3 hO3 hS HO0 hi0 hz0' hz1' hz2' c1' q1
        go_wp2
        go_end0
        exact ⟨_, _, rfl, HS.out⟩
    · obtain rfl : i = n := by omega
      obtain rfl : i = M := by have := hC.out; rw [List.drop_eq_nil_of_le (by rw [Hn.out]; exact Nat.le_refl _)] at this; simpa [crashFrom] using this
      clear hC
      have HT : Hid ((ls.take i).length = i) := Lib.hid (by rw [List.length_take, Hn.out]; omega)
      have RT : Rd w 1 (.slice ao i cap) i ((ls.map Value.string).take i) := Rd.pre (by have := H.out.row.rd; rw [Hn.out] at this; exact this) i (by omega)
      have hO0 := ow_empty w 9 1
      have c1' : (w.alloc (.cells #[] 9)).cell? ⟨p, 1, none⟩ = some (.slice ao i cap) := hO0.fr.cell c1 (fun f => f)
      have HO0 := Lib.hid hO0
      have RT' := Lib.hid (RT.fr hO0.fr (fun _ _ _ f => f))
      clear hO0 RT
      go_wp2_with (at_builtin; refine wpList_append_all (w.alloc (.cells #[] 9)) rfl _ _ 40 rfl 9 i0 (.string ByteArray.empty) 1 16 Try.underlying40 hi0 hz0' hz1' hz2' rfl (by decide) _ _ _ rfl HO0.out.sl _ _ _ rfl RT'.out (fun u hu => by obtain ⟨x, _, rfl⟩ := List.mem_map.1 (List.mem_of_mem_take hu); rfl) (by unfold maxLen; omega) (by omega) ?_)
      intro ao3 cap3 w3 hs3 hf3 ho3 _
      have hO3 := HO0.out.app hs3 hf3 (ho3.elim .inl (fun h => .inr (fun g hg => by rw [World.size_alloc]; exact h g hg)))
      obtain ⟨d1, e1, d2, e2, hS⟩ := rLay2 (ls' := ls.take i) (m := i) H.out hO3.fr (by rw [HT.out, List.map_take]; exact hO3.sl) hO3.fresh (by rw [HT.out]; exact Nat.le_refl _) (by have := dUsed_take ls i; have := H.out.used; omega)
      have HS := Lib.hid hS
      clear hs3 hf3 ho3 hO3 hS HO0 hi0 hz0' hz1' hz2' c1' q1
      go_wp2
      go_end0
      exact ⟨_, _, rfl, HS.out⟩
end Go.Proofs.Ythlcbhpdbcnmjaa
