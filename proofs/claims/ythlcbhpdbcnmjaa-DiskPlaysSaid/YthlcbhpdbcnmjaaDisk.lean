/- Contracts of the package disk. -/
import Derived.Test.YthlcbhpdbcnmjaaDisk0
import Derived.Test.YthlcbhpdbcnmjaaShelf3
import Derived.Test.YthlcbhpdbcnmjaaHeld
import Derived.Test.YthlcbhpdbcnmjaaIterD
import Derived.Test.YthlcbhpdbcnmjaaEnum
import Derived.OwnWalkIn
import Derived.IntWalk
import Derived.WalkMore
namespace Go.Proofs.Ythlcbhpdbcnmjaa
open Go.RowKit Go.Shelf Go.XL
set_option linter.unusedVariables false
set_option linter.unusedSimpArgs false
attribute [local go_sem] Oper.semAt_some
abbrev Dk := DkAt 9 58
set_option maxHeartbeats 400000 in
theorem clone_str (v : Value) (n : Nat) (xs : List Value) (w : World) (h : Rd w 1 v n xs) (h1x : ∀ u ∈ xs, u.oneCell' = true) (hn : n * 16 ≤ 140737488355328) :
    Calls Try.prog 30 #[v] w fun e w' => ∃ ao' cap', e = .returned (.slice ao' n cap') ∧ Ow w w' 9 1 (.slice ao' n cap') n xs := by
  obtain ⟨ao, cap, rfl, hcap, hm⟩ := h.cap
  have h1 := @Lib.run_eql_slice_nil Try.prog
  cases ao with
  | none =>
    have h0 : n = 0 := by
      obtain ⟨_, ao, cap', he, _, _, hz, _⟩ := h
      cases he
      have := hz rfl
      omega
    subst h0
    obtain rfl : xs = [] := List.eq_nil_of_length_eq_zero (by simpa using h.1)
    clear h1x
    go_enter Try.func30, Try.ntmps30
    go_wp2
    go_ret
    exact ⟨none, 0, rfl, Ow.nil (Fr.refl _ _) _ _⟩
  | some a =>
    obtain ⟨i0, hi, hz0, hz1, hz2⟩ := info_parts (show (Try.prog.info? 9).map (fun i => (i.zero, i.size, i.bytes)) = some (some (.string ByteArray.empty), 1, 16) by kernel_rfl)
    have H := Lib.hid h
    have H1x := Lib.hid h1x
    clear h h1x
    have hf : Fr no w (w.alloc (.cells #[] 9)) := (Fr.refl _ w).alloc _
    have hs0 : Sl (w.alloc (.cells #[] 9)) 9 1 (.slice (some ⟨w.heap.size, 0, none⟩) 0 0) 0 [] := ⟨by simp, _, 0, rfl, Nat.le_refl _, by simp [maxLen], ⟨by simp, fun a h => by cases h; simp⟩, fun h => absurd h (Nat.lt_irrefl _)⟩
    have Hs0 := Lib.hid hs0
    clear hs0
    go_enter Try.func30, Try.ntmps30
    go_wp2_with (at_builtin; refine wpList_append_all (w.alloc (.cells #[] 9)) rfl _ _ 40 rfl 9 i0 (.string ByteArray.empty) 1 16 Try.underlying40 hi hz0 hz1 hz2 rfl (by decide) _ _ _ rfl Hs0.out _ _ _ rfl (H.out.fr hf (fun _ _ _ f => f)) H1x.out (by unfold maxLen; omega) (by omega) ?_)
    intro ao' cap' w' hs' hfr hor hkb
    have Hs' := Lib.hid hs'
    have Hor := Lib.hid hor
    clear hs' hor h1
    go_wp2
    go_ret
    refine ⟨ao', cap', rfl, by simpa using Hs'.out, hf.trans hfr (fun k hk e => ?_), fun g hg => ?_⟩
    · simp [Value.ownBlock] at e; omega
    · rcases Hor.out with e | e
      · rw [e] at hg; simp [Value.ownBlock] at hg; omega
      · have := e g hg; omega


theorem dNew_bad (r : Int) (w : World) (h : r < 1 ∨ 1048576 < r) : Calls Try.prog 10 #[.int .i64 r] w fun e w' => e = .returned (.tuple #[.pointer none, .int .i64 1]) ∧ w = w' := by
  by_cases h1 : r < 1
  · go_enter Try.func10, Try.ntmps10
    go_wp2
    go_ret2
    exact ⟨rfl, rfl⟩
  · have h2 : 1048576 < r := by omega
    go_enter Try.func10, Try.ntmps10
    go_wp2
    go_ret2
    exact ⟨rfl, rfl⟩
theorem dNew (r : Int) (w : World) (h1 : 1 ≤ r) (h2 : r ≤ 1048576) : Calls Try.prog 10 #[.int .i64 r] w fun e w' => e = .returned (.tuple #[.pointer (some ⟨w.heap.size, 0, none⟩), .int .i64 0]) ∧ Dk w' w.heap.size (.slice none 0 0) r [] 0 ∧ Fr no w w' := by
  go_enter Try.func10, Try.ntmps10
  go_wp2
  go_ret2
  exact ⟨rfl, ⟨World.alloc_heap_new w _, by simpa using Sl.nil _ _ _, by simp [Value.ownBlock], Nat.le_refl _, by simp [dUsed]; omega, h1, h2⟩, (Fr.refl no w).alloc _⟩

theorem dLines {p : Nat} {v : Value} {room : Int} {ls : List ByteArray} {lasts : Nat} {w : World} (h : Dk w p v room ls lasts) : Calls Try.prog 22 #[.pointer (some ⟨p, 0, none⟩)] w fun e w' =>
    e = .returned (.func (.func 31) #[] #[.pointer (some ⟨w.heap.size, 0, none⟩)]) ∧ w.alloc (.cells #[v] 40) = w' := by
  have c1 := h.c1
  obtain ⟨ao, cap, rfl, _, _⟩ := h.row.cap
  clear h
  go_enter Try.func22, Try.ntmps22
  go_wp2
  go_ret
  exact ⟨rfl, rfl⟩

theorem dIter (c n : Nat) (v : Value) (ls : List ByteArray) :
    EachC Fence.wide 2 Try.prog 31 #[.pointer (some ⟨c, 0, none⟩)] (fun x : Nat × ByteArray => #[.int .i64 x.1, .string x.2]) (fun W => W.cell? ⟨c, 0, none⟩ = some v ∧ Rd W 1 v n (ls.map Value.string)) (enumG ls 0) := by
  intro l J Jx W hJ hPre hY
  obtain ⟨hc, hI⟩ := hPre _ W hJ
  have hN := hI.1
  rw [Nat.mul_one, List.length_map] at hN
  obtain ⟨ao, cap, rfl, hcap, hmx⟩ := hI.cap
  clear hI
  have HN := Lib.hid hN
  refine callsIn_of_wp Try.func31 rfl trivial ?_ rfl
  simp only [Try.ntmps31, List.size_toArray, List.length_cons, List.length_nil, Nat.reduceAdd, Nat.reduceSub, Array.replicate_succ, Array.replicate_zero, List.push_toArray, List.append_toArray, List.nil_append, List.cons_append]
  gi_wp2
  clear hc hN
  gi_loopw [7] (fun i wr => ∃ (k : Nat), k ≤ n ∧ i = .int .i64 k ∧ J (enumG (ls.drop k) k) wr) (fun i _ => n - (intOf i).toNat)
  case atStart => exact ⟨0, Nat.zero_le _, rfl, hJ⟩
  case round =>
    obtain ⟨k, hk, rfl, hJk⟩ := hrel
    by_cases hlt : k < n
    · obtain ⟨_, hI⟩ := hPre _ wr hJk
      have hxl : k < ls.length := by rw [HN.out]; exact hlt
      obtain ⟨g, off, c', he, _, _, hx⟩ := hI.form (by omega)
      cases he
      obtain ⟨x, hxk⟩ : ∃ x, ls[k]? = some x := ⟨ls[k], by simp [hxl]⟩
      have hcx : wr.cell? ⟨g, off + k, none⟩ = some (.string x) := hx k _ (by rw [List.getElem?_map, hxk]; rfl)
      obtain ⟨fn, tmps, assign, body, hy, hR⟩ := hY _ wr _ _ _ hJk ⟨enumG_some hxk, rfl⟩
      clear hx hxk hxl hI hJ hJk
      gi_wp2
      refine hR.mono ?_
      rintro e W3 (⟨rfl, hJ3⟩ | ⟨rfl, hJx3⟩)
      · gi_wp2
        go_roundw
        case rel => exact ⟨k + 1, by omega, by go_num, hJ3⟩
        case measure => simp [intOf]; omega
      · gi_wp2
        refine bodyPost_ret (results_none rfl _ _ _) rfl ?_
        exact ⟨⟨_, rfl⟩, .inr hJx3⟩
    · obtain rfl : k = n := by omega
      gi_wp2
      go_end0
      refine ⟨⟨_, rfl⟩, .inl ⟨_, _, hJk, ?_, rfl⟩⟩
      rw [List.drop_eq_nil_of_le (by rw [HN.out]; exact Nat.le_refl _)]; rfl

theorem dLen {p : Nat} {v : Value} {room : Int} {ls : List ByteArray} {lasts : Nat} {w : World} (h : Dk w p v room ls lasts) : Calls Try.prog 24 #[.pointer (some ⟨p, 0, none⟩)] w fun e w' => e = .returned (.int .i64 ls.length) ∧ w = w' := by
  have c1 := h.c1
  obtain ⟨ao, cap, rfl, _, _⟩ := h.row.cap
  clear h
  generalize ls.length = n at *
  go_enter Try.func24, Try.ntmps24
  go_wp2
  go_ret
  exact ⟨rfl, rfl⟩

theorem dWaits {p : Nat} {v : Value} {room : Int} {ls : List ByteArray} {lasts : Nat} {w : World} (h : Dk w p v room ls lasts) : Calls Try.prog 25 #[.pointer (some ⟨p, 0, none⟩)] w fun e w' => e = .returned (.int .i64 ((ls.length - lasts : Nat) : Int)) ∧ Fr no w w' := by
  have c1 := h.c1
  have c2 := h.c2
  have hl := h.lasts
  have hn := h.len
  obtain ⟨ao, cap, rfl, _, _⟩ := h.row.cap
  clear h
  generalize ls.length = n at *
  have hc : ((n - lasts : Nat) : Int) = (n : Int) - lasts := by omega
  rw [hc]
  clear hc
  have hsub : IntKind.i64.wrap ((n : Int) - lasts) = (n : Int) - lasts := IntWalk.i64_in _ (by omega)
  go_enter Try.func25, Try.ntmps25
  go_wp2_with fail
  go_quiet (fail)
  go_wp2
  go_ret
  exact ⟨rfl, (Fr.refl no w).drewN _⟩

/-- a disk whose lines that last are not counted yet -/
structure DkPre (w : World) (p : Nat) (v : Value) (room : Int) (ls : List ByteArray) (l : Nat) : Prop where
  cell : w.heap[p]? = some (.cells #[.int .i64 room, v, .int .i64 l] 58 (0, 0))
  row : Sl w 9 1 v ls.length (ls.map Value.string)
  ne : v.ownBlock ≠ some p
  used : (dUsed ls : Int) ≤ room
  room : 1 ≤ room ∧ room ≤ 1048576
theorem dSync0 {p : Nat} {v : Value} {room : Int} {ls : List ByteArray} {lasts : Nat} {w : World} (h : DkPre w p v room ls lasts) : Calls Try.prog 14 #[.pointer (some ⟨p, 0, none⟩)] w fun e w' => (∃ u, e = .returned u) ∧ Dk w' p v room ls ls.length ∧ Fr (fun g => g = p) w w' := by
  have c1 : w.cell? ⟨p, 1, none⟩ = some v := cell_of_block h.cell rfl
  have c2 : w.cell? ⟨p, 2, none⟩ = some (.int .i64 lasts) := cell_of_block h.cell rfl
  have f2 : w.frozen? ⟨p, 2, none⟩ = false := frozen_of_block h.cell
  have hf : Fr (fun g => g = p) w (w.setCell ⟨p, 2, none⟩ (.int .i64 ls.length)) := (Fr.refl (fun g => g = p) w).setCell (p := ⟨p, 2, none⟩) (fun _ => rfl) _
  have hfin : Dk (w.setCell ⟨p, 2, none⟩ (.int .i64 ls.length)) p v room ls ls.length := ⟨heap_setC _ h.cell, h.row.fr hf (fun g hg e => h.ne (by rw [hg, e])), h.ne, Nat.le_refl _, h.used, h.room⟩
  have Hfin := Lib.hid (And.intro hfin hf)
  obtain ⟨ao, cap, rfl, _, _⟩ := h.row.cap
  clear h hf hfin
  generalize hn : ls.length = n at *
  have Hn := Lib.hid hn
  clear hn
  go_enter Try.func14, Try.ntmps14
  go_wp2
  go_end0
  exact ⟨⟨_, rfl⟩, Hfin.out⟩
theorem dSync {p : Nat} {v : Value} {room : Int} {ls : List ByteArray} {lasts : Nat} {w : World} (h : Dk w p v room ls lasts) : Calls Try.prog 14 #[.pointer (some ⟨p, 0, none⟩)] w fun e w' => (∃ u, e = .returned u) ∧ Dk w' p v room ls ls.length ∧ Fr (fun g => g = p) w w' := dSync0 ⟨h.cell, h.row, h.ne, h.used, h.room⟩

/-- what holds between two rounds of Used -/
def UsI (w : World) (p : Nat) (v : Value) (room : Int) (ls : List ByteArray) (lasts : Nat) (s : List (Nat × ByteArray)) (W : World) : Prop :=
  ∃ k, s = enumG (ls.drop k) k ∧ W.heap[w.heap.size]? = some (.cells #[.int .i64 (dUsed (ls.take k) : Nat)] 3 (0, 0)) ∧ W.heap[w.heap.size + 1]? = some (.cells #[v] 40 (0, 0)) ∧ Dk W p v room ls lasts ∧ Fr no w W

set_option maxHeartbeats 1000000 in
theorem dUsedC {p : Nat} {v : Value} {room : Int} {ls : List ByteArray} {lasts : Nat} {w : World} (h : Dk w p v room ls lasts) : Calls Try.prog 26 #[.pointer (some ⟨p, 0, none⟩)] w fun e w' => e = .returned (.int .i64 (dUsed ls : Nat)) ∧ Fr no w w' := by
  have H := Lib.hid h
  clear h
  refine calls_of_in (n := 4) free_wide (callsIn_of_wp_marks Try.func26 rfl trivial (wpIn_wide.2 ?_) rfl)
  simp only [Try.ntmps26, List.size_toArray, List.length_cons, List.length_nil, Nat.reduceAdd, Nat.reduceSub, Array.replicate_succ, Array.replicate_zero, List.push_toArray, List.append_toArray, List.nil_append, List.cons_append]
  have hf1 : Fr no w (w.alloc (.cells #[.int .i64 0] 3)) := (Fr.refl no w).alloc _
  go_wp2_with fail
  refine (dLines (H.out.fr0 hf1)).mono ?_
  rintro e w2 ⟨rfl, hw2⟩
  have hf2 : Fr no w w2 := by rw [← hw2]; exact hf1.alloc _
  have hI0 : UsI w p v room ls lasts (enumG ls 0) w2 := by
    refine ⟨0, rfl, ?_, ?_, H.out.fr0 hf2, hf2⟩ <;> rw [← hw2] <;> simp only [alloc_get, World.size_alloc] <;> simp [dUsed]
  have hs2 : w.heap.size + 1 + 1 = w2.heap.size := by rw [← hw2]; simp
  have HI0 := Lib.hid hI0
  clear hw2 hI0 hf2 hf1
  have hIbk : ∀ s W W', UsI w p v room ls lasts s W → Bk w2.heap.size W W' → UsI w p v room ls lasts s W' := by
    rintro s W W' ⟨k, a1, a2, a3, a4, a5⟩ hb
    exact ⟨k, a1, hb.heap a2 rfl, hb.heap a3 rfl, a4.bk hb, hb.fr a5 (by omega)⟩
  rw [World.size_alloc]
  go_wp2_with fail
  refine (wpIn_wide (n := 3)).1 ?_
  refine wpIn_each (ls := enumG ls 0) rfl (by intro h; cases h) (gf := 31) (lb := #[.pointer (some ⟨w.heap.size + 1, 0, none⟩)]) rfl trivial (enters_of Try.func31 (by kernel_rfl) rfl)
    (dIter (w.heap.size + 1) ls.length v ls) (fun _ => rfl) (UsI w p v room ls lasts) (fun _ _ => False)
    hIbk (fun _ _ _ f _ => f) ?hPre HI0.out ?round ?done (fun _ _ _ _ f => f.elim)
  case hPre =>
    rintro s W ⟨k, a1, a2, a3, a4, a5⟩
    exact ⟨cell_of_block a3 rfl, a4.row.rd⟩
  case round =>
    rintro l W x s h
    gi_wp2
    refine ⟨Kb.refl _, fun l W' hb hl => ?_⟩
    obtain ⟨k, a1, a2, a3, a4, a5⟩ := hIbk _ _ _ h hb
    clear hb h hIbk HI0
    obtain ⟨u, hu, rfl, rfl⟩ := enumG_cons a1.symm
    have hun : dUsed (ls.take (k + 1)) = dUsed (ls.take k) + (u.size + 1) := by rw [List.take_add_one, hu, dUsed_append]; simp [dUsed]
    have hle : dUsed (ls.take (k + 1)) ≤ 1048576 := Nat.le_trans (dUsed_take ls _) a4.usedN
    have cK : W'.cell? ⟨w.heap.size, 0, none⟩ = some (.int .i64 (dUsed (ls.take k) : Nat)) := cell_of_block a2 rfl
    have fK : W'.frozen? ⟨w.heap.size, 0, none⟩ = false := frozen_of_block a2
    obtain ⟨U, hU⟩ : ∃ U : Nat, dUsed (ls.take k) = U := ⟨_, rfl⟩
    have hfin : Hid (Kb W' (W'.setCell ⟨w.heap.size, 0, none⟩ (.int .i64 ((U : Int) + ((u.size : Int) + 1)))) ∧ UsI w p v room ls lasts (enumG (ls.drop (k + 1)) (k + 1)) (W'.setCell ⟨w.heap.size, 0, none⟩ (.int .i64 ((U : Int) + ((u.size : Int) + 1))))) := by
      have hf : Fr (fun g => g = w.heap.size) W' (W'.setCell ⟨w.heap.size, 0, none⟩ (.int .i64 ((U : Int) + ((u.size : Int) + 1)))) := (Fr.refl (fun g => g = w.heap.size) W').setCell (p := ⟨w.heap.size, 0, none⟩) (fun _ => rfl) _
      refine Lib.hid ⟨Kb.setCell _ _ _, k + 1, rfl, ?_, hf.heap a3 (by omega), a4.fr hf (fun g hg e => by have := H.out.lt g hg; omega), a5.trans hf (fun i hi e => by omega)⟩
      have := heap_setC (j := 0) (.int .i64 ((U : Int) + ((u.size : Int) + 1))) a2
      rw [hun, hU, show ((U + (u.size + 1) : Nat) : Int) = (U : Int) + ((u.size : Int) + 1) by omega]
      simpa using this
    rw [hU] at cK hun
    clear a1 a2 a3 a4 a5 hu
    have hb1 : (U : Int) + ((u.size : Int) + 1) ≤ 1048576 := by omega
    generalize dUsed (ls.take (k + 1)) = U2 at *
    clear hun hle hU
    gi_wp2
    exact hfin.out
  case done =>
    rintro D W hD ⟨k, a1, a2, a3, a4, a5⟩ hd
    have hk := enumG_nil a1.symm
    rw [List.take_of_length_le hk] at a2
    have cK : W.cell? ⟨w.heap.size, 0, none⟩ = some (.int .i64 (dUsed ls : Nat)) := cell_of_block a2 rfl
    have A5 := Lib.hid a5
    have Hd := Lib.hid hd
    clear a1 a2 a3 a4 a5 hd hk hIbk HI0
    go_wp2
    refine leaveOne D rfl Hd.out (fun Wf hbf => ?_)
    exact ⟨_, by simp [results, Try.results26, go_sem], rfl, hbf.fr A5.out (by omega)⟩

set_option maxHeartbeats 2000000 in
theorem dWrite {p : Nat} {v : Value} {room : Int} {ls : List ByteArray} {lasts : Nat} {w : World} (s : ByteArray) (hs : s.size ≤ 1000000) (h : Dk w p v room ls lasts) : Calls Try.prog 12 #[.pointer (some ⟨p, 0, none⟩), .string s] w fun e w' =>
    e = .returned (.int .i64 (dWriteR room ls s)) ∧ ∃ v', Dk w' p v' room (dWriteL room ls s) lasts ∧ Fr (dOwn p v) w w' ∧ ∀ g, dOwn p v' g → dOwn p v g ∨ w.heap.size ≤ g := by
  have hres : ∀ r : Int, dWriteR room ls s = r → Hid (dWriteR room ls s = r) := fun r h => h
  have hno : ∀ r : Int, r ≠ 0 → dWriteR room ls s = r → ∀ w', Fr no w w' → ∃ v', Dk w' p v' room (dWriteL room ls s) lasts ∧ Fr (dOwn p v) w w' ∧ ∀ g, dOwn p v' g → dOwn p v g ∨ w.heap.size ≤ g := fun r hr0 hr w' hf => by
    rw [dWriteL, hr, if_neg hr0]
    exact ⟨v, h.fr0 hf, hf.mono (fun _ _ f => f.elim), fun g hg => .inl hg⟩
  have Hno := Lib.hid hno
  clear hno
  have H := Lib.hid h
  have hroom := h.room
  have hused := h.usedN
  have c0 := h.c0
  clear h
  have hc : Calls Try.prog 28 #[.string s, .string ⟨#[10]⟩] w fun e w' => e = .returned (.bool (hasNl s)) ∧ w = w' := (Ythlcbhpdbcnmjaa.contains_one s 10 w).mono (fun e w' h => ⟨h.1, h.2.symm⟩)
  have Hc := Lib.hid hc
  clear hc
  cases hn : hasNl s
  · have Hn := Lib.hid hn
    rw [hn] at Hc
    clear hn
    have hdw : Fr no w w.drew := (Fr.refl no w).drewN 1
    have H1 := Lib.hid (H.out.fr0 hdw)
    have c0' := H1.out.c0
    have Hu := Lib.hid (dUsedC H1.out)
    obtain ⟨U, hU⟩ : ∃ U : Nat, dUsed ls = U := ⟨_, rfl⟩
    have HU := Lib.hid hU
    rw [hU] at Hu hused
    clear hU c0 hdw
    have hsub : IntKind.i64.wrap (room - (U : Int)) = room - U := IntWalk.i64_in _ (by omega)
    have hadd : IntKind.i64.wrap ((s.size : Int) + 1) = (s.size : Int) + 1 := IntWalk.i64_in _ (by omega)
    go_enter Try.func12, Try.ntmps12
    go_wp2_with fail
    refine Hc.out.mono ?_
    rintro e w' ⟨rfl, rfl⟩
    go_wp2_with fail
    refine wp_held (fun w' => w'.cell? ⟨p, 0, none⟩ = some (.int .i64 room)) (by kernel_rfl) ?_ (fun hHeld => ?_)
    · exact c0'
    refine held_take (v := ?_) 0 rfl (by kernel_rfl) (.inl ⟨by rfl, ?_⟩) hHeld ?_
    rotate_left
    · intro w hSw; (try dsimp only at hSw); first | (go_simp; done) | (go_simp; with_reducible rfl)
    try simp only [Act.put, List.setIfInBounds_toArray, List.set_cons_zero, List.set_cons_succ]
    refine held_take (v := ?_) 1 rfl (by kernel_rfl) (.inl ⟨by rfl, ?_⟩) hHeld ?_
    rotate_left
    · intro w hSw; (try dsimp only at hSw); first | (go_simp; done) | (go_simp; with_reducible rfl)
    try simp only [Act.put, List.setIfInBounds_toArray, List.set_cons_zero, List.set_cons_succ]
    refine held_take (v := ?_) 2 rfl (by kernel_rfl) (.inl ⟨by rfl, ?_⟩) hHeld ?_
    rotate_left
    · intro w hSw; (try dsimp only at hSw); first | (go_simp; done) | (go_simp; with_reducible rfl)
    try simp only [Act.put, List.setIfInBounds_toArray, List.set_cons_zero, List.set_cons_succ]
    refine held_take (v := ?_) 3 rfl (by kernel_rfl) (.inl ⟨by rfl, ?_⟩) hHeld ?_
    rotate_left
    · intro w hSw; (try dsimp only at hSw); first | (go_simp; done) | (go_simp; with_reducible rfl)
    try simp only [Act.put, List.setIfInBounds_toArray, List.set_cons_zero, List.set_cons_succ]
    refine held_take (v := ?_) 4 rfl (by kernel_rfl) (.inl ⟨by rfl, ?_⟩) hHeld ?_
    rotate_left
    · intro w hSw; (try dsimp only at hSw); first | (go_simp; done) | (go_simp; with_reducible rfl)
    try simp only [Act.put, List.setIfInBounds_toArray, List.set_cons_zero, List.set_cons_succ]
    refine held_take (v := ?_) 5 rfl (by kernel_rfl) (.inl ⟨by rfl, ?_⟩) hHeld ?_
    rotate_left
    · intro w hSw; (try dsimp only at hSw); first | (go_simp; done) | (go_simp; with_reducible rfl)
    try simp only [Act.put, List.setIfInBounds_toArray, List.set_cons_zero, List.set_cons_succ]
    refine held_take (v := ?_) 6 rfl (by kernel_rfl) (.inl ⟨by rfl, ?_⟩) hHeld ?_
    rotate_left
    · intro w hSw; (try dsimp only at hSw); first | (go_simp; done) | (go_simp; with_reducible rfl)
    try simp only [Act.put, List.setIfInBounds_toArray, List.set_cons_zero, List.set_cons_succ]
    refine held_take (v := ?_) 7 rfl (by kernel_rfl) (.inl ⟨by rfl, ?_⟩) hHeld ?_
    rotate_left
    · intro w hSw; (try dsimp only at hSw); first | (go_simp; done) | (go_simp; with_reducible rfl)
    try simp only [Act.put, List.setIfInBounds_toArray, List.set_cons_zero, List.set_cons_succ]
    refine held_call 8 rfl (by kernel_rfl) (fun K hK => ?_)
    go_simp
    go_at_call 26; refine (Hu.out).mono ?_; rintro e w2 ⟨rfl, hf2⟩; have c02 := hf2.cell (p := ⟨p, 0, none⟩) c0' (fun f => f); have F2 := Lib.hid (((Fr.refl no w).drewN 1).trans' hf2); clear hf2
    refine hK.out _ _ ?_ (fun hHeld' => ?_)
    · exact c02
    clear hK K hHeld
    have hHeld := hHeld'
    clear hHeld'
    try simp only [Act.put, List.setIfInBounds_toArray, List.set_cons_zero, List.set_cons_succ]
    refine held_take (v := ?_) 9 rfl (by kernel_rfl) (.inl ⟨by rfl, ?_⟩) hHeld ?_
    rotate_left
    · intro w hSw; (try dsimp only at hSw); first | (go_simp; done) | (go_simp; with_reducible rfl)
    try simp only [Act.put, List.setIfInBounds_toArray, List.set_cons_zero, List.set_cons_succ]
    refine held_take (v := ?_) 10 rfl (by kernel_rfl) (.inl ⟨by rfl, ?_⟩) hHeld ?_
    rotate_left
    · intro w hSw; (try dsimp only at hSw); first | (go_simp; done) | (go_simp; with_reducible rfl)
    try simp only [Act.put, List.setIfInBounds_toArray, List.set_cons_zero, List.set_cons_succ]
    refine held_take (v := ?_) 11 rfl (by kernel_rfl) (.inl ⟨by rfl, ?_⟩) hHeld ?_
    rotate_left
    · intro w hSw; (try dsimp only at hSw); first | (go_simp; done) | (go_simp; with_reducible rfl)
    try simp only [Act.put, List.setIfInBounds_toArray, List.set_cons_zero, List.set_cons_succ]
    refine held_done (by kernel_rfl) ?_
    try clear hHeld
    clear c02 c0' hsub hadd Hu Hc
    by_cases hfull : room - (U : Int) < (s.size : Int) + 1
    · have R := hres 6 (by rw [dWriteR, if_neg (by rw [Hn.out]; decide), HU.out, if_pos hfull])
      clear hres
      go_wp2
      go_ret
      rw [R.out]
      exact ⟨rfl, Hno.out 6 (by decide) R.out w2 F2.out⟩
    · have R := hres 0 (by rw [dWriteR, if_neg (by rw [Hn.out]; decide), HU.out, if_neg hfull])
      clear hres Hno
      have h2 := H.out.fr0 F2.out
      have hrow := h2.row
      have hlen := h2.len
      obtain ⟨ao, cap, hv, hc1, hm1⟩ := hrow.cap
      subst hv
      have c1 := h2.c1
      have f1 := h2.fz 1
      have hb2 := h2.cell
      have hfin : ∀ (ao' : Option Addr) (cap' : Nat) (w3 : World), Sl w3 9 1 (.slice ao' (ls.length + 1) cap') (ls.length + 1) (ls.map Value.string ++ [.string s]) → Fr (fun g => Value.ownBlock (.slice ao ls.length cap) = some g) w2 w3 →
          (Value.ownBlock (.slice ao' (ls.length + 1) cap') = Value.ownBlock (.slice ao ls.length cap) ∨ ∀ g, Value.ownBlock (.slice ao' (ls.length + 1) cap') = some g → w2.heap.size ≤ g) →
          w3.cell? ⟨p, 1, none⟩ = some (.slice ao ls.length cap) ∧ w3.frozen? ⟨p, 1, none⟩ = false ∧ ∃ v', Dk (w3.setCell ⟨p, 1, none⟩ (.slice ao' (ls.length + 1) cap')) p v' room (dWriteL room ls s) lasts ∧ Fr (dOwn p (.slice ao ls.length cap)) w (w3.setCell ⟨p, 1, none⟩ (.slice ao' (ls.length + 1) cap')) ∧ ∀ g, dOwn p v' g → dOwn p (.slice ao ls.length cap) g ∨ w.heap.size ≤ g := by
        intro ao' cap' w3 hs3 hf3 ho3
        have hb3 := hf3.heap hb2 h2.ne
        have hne' : Value.ownBlock (.slice ao' (ls.length + 1) cap') ≠ some p := fun e => by
          rcases ho3 with q | q
          · exact h2.ne (by rw [← q]; exact e)
          · have := q p e; have := h2.lt p (.inl rfl); omega
        have hf4 : Fr (fun g => g = p) w3 (w3.setCell ⟨p, 1, none⟩ (.slice ao' (ls.length + 1) cap')) := (Fr.refl (fun g => g = p) w3).setCell (p := ⟨p, 1, none⟩) (fun _ => rfl) _
        refine ⟨cell_of_block hb3 rfl, frozen_of_block hb3, .slice ao' (ls.length + 1) cap', ⟨heap_setC _ hb3, ?_, hne', ?_, ?_, h2.room⟩, ((F2.out.mono (fun _ _ f => f.elim)).trans' (hf3.mono (fun _ _ e => .inr e))).trans' (hf4.mono (fun _ _ e => .inl e)), ?_⟩
        · rw [dWriteL, R.out, if_pos rfl]
          have := hs3.fr hf4 (fun g hg e => hne' (by rw [hg, e]))
          simpa using this
        · rw [dWriteL, R.out, if_pos rfl, List.length_append]; have := h2.lasts; omega
        · rw [dWriteL, R.out, if_pos rfl, dUsed_append, HU.out]; simp only [dUsed]; omega
        · rintro g (rfl | hg)
          · exact .inl (.inl rfl)
          · rcases ho3 with q | q
            · exact .inl (.inr (by rw [← q]; exact hg))
            · exact .inr (Nat.le_trans F2.out.size (q g hg))
      have Hfin := Lib.hid hfin
      have Hrow := Lib.hid hrow
      clear hfin hrow h2 hb2 H H1 F2
      obtain ⟨i0, hi0, hz0', hz1', hz2'⟩ := info_parts (show (Try.prog.info? 9).map (fun i => (i.zero, i.size, i.bytes)) = some (some (.string ByteArray.empty), 1, 16) by kernel_rfl)
      generalize hn' : ls.length = n at *
      have Hn' := Lib.hid hn'
      clear hn'
      go_wp2_with (at_builtin; refine wpList_append_one w2 (.string s) 9 rfl _ _ 40 rfl 9 i0 (.string ByteArray.empty) 16 Try.underlying40 hi0 hz0' hz1' hz2' rfl _ n _ rfl Hrow.out rfl rfl (by unfold maxLen; omega) (by omega) ?_)
      intro ao' cap' w3 hs3 hf3 ho3 _
      obtain ⟨c1', f1', hfin⟩ := Hfin.out ao' cap' w3 hs3 hf3 ho3
      have HF := Lib.hid hfin
      clear hs3 hf3 ho3 hfin Hfin Hrow hi0 hz0' hz1' hz2' c1 f1
      go_wp2
      go_ret
      rw [R.out, Hn'.out]
      exact ⟨rfl, HF.out⟩
  · have R := hres 2 (by rw [dWriteR, if_pos hn])
    rw [hn] at Hc
    clear hn hres
    go_enter Try.func12, Try.ntmps12
    go_wp2_with fail
    refine Hc.out.mono ?_
    rintro e w' ⟨rfl, rfl⟩
    go_wp2
    go_ret
    rw [R.out]
    exact ⟨rfl, Hno.out 2 (by decide) R.out w (Fr.refl _ _)⟩

set_option maxHeartbeats 1000000 in
theorem dTwin {p : Nat} {v : Value} {room : Int} {ls : List ByteArray} {lasts : Nat} {w : World} (h : Dk w p v room ls lasts) : Calls Try.prog 20 #[.pointer (some ⟨p, 0, none⟩)] w fun e w' =>
    ∃ p' v', e = .returned (.pointer (some ⟨p', 0, none⟩)) ∧ Dk w' p' v' room ls lasts ∧ Fr no w w' ∧ ∀ g, dOwn p' v' g → w.heap.size ≤ g := by
  have c0 := h.c0
  have c1 := h.c1
  have c2 := h.c2
  have hlen := h.len
  obtain ⟨ao, cap, hv, hcap, hmx⟩ := h.row.cap
  subst hv
  have hA : ∀ o, (w.alloc o).cell? ⟨p, 1, none⟩ = some (.slice ao ls.length cap) := fun o => ((Fr.refl no w).alloc o).cell c1 (fun f => f)
  have hcl := clone_str (.slice ao ls.length cap) ls.length (ls.map Value.string) (w.alloc (.cells #[.int .i64 room, .slice ao ls.length cap, .int .i64 lasts] 58)) (h.row.rd.fr ((Fr.refl no w).alloc _) (fun _ _ _ f => f)) (by simp [Value.oneCell']) (by omega)
  have H := Lib.hid h
  have Hcl := Lib.hid hcl
  clear h hcl
  generalize hn : ls.length = n at *
  have Hn := Lib.hid hn
  clear hn
  go_enter Try.func20, Try.ntmps20
  go_wp2_with fail
  refine Hcl.out.mono ?_
  rintro e w1 ⟨ao1, cap1, rfl, hO⟩
  have h0 := hO.fr.heap (World.alloc_heap_new w (.cells #[.int .i64 room, .slice ao n cap, .int .i64 lasts] 58)) (fun f => f)
  have hcn : w1.cell? ⟨w.heap.size, 1, none⟩ = some (.slice ao n cap) := cell_of_block h0 rfl
  have hfn : w1.frozen? ⟨w.heap.size, 1, none⟩ = false := frozen_of_block h0
  have hfresh : ∀ g, Value.ownBlock (.slice ao1 n cap1) = some g → w.heap.size + 1 ≤ g := fun g hg => by have := hO.fresh g hg; simpa using this
  have hf4 : Fr (fun g => g = w.heap.size) w1 (w1.setCell ⟨w.heap.size, 1, none⟩ (.slice ao1 n cap1)) := (Fr.refl (fun g => g = w.heap.size) w1).setCell (p := ⟨w.heap.size, 1, none⟩) (fun _ => rfl) _
  have hfin : Dk (w1.setCell ⟨w.heap.size, 1, none⟩ (.slice ao1 n cap1)) w.heap.size (.slice ao1 n cap1) room ls lasts ∧ Fr no w (w1.setCell ⟨w.heap.size, 1, none⟩ (.slice ao1 n cap1)) ∧ ∀ g, dOwn w.heap.size (.slice ao1 n cap1) g → w.heap.size ≤ g := by
    refine ⟨⟨heap_setC _ h0, ?_, fun e => by have := hfresh _ e; omega, H.out.lasts, H.out.used, H.out.room⟩, (((Fr.refl no w).alloc _).trans' hO.fr).trans hf4 (fun i hi e => by omega), fun g hg => ?_⟩
    · rw [Hn.out]; exact hO.sl.fr hf4 (fun g hg e => by have := hfresh g hg; omega)
    · rcases hg with rfl | hg
      · exact Nat.le_refl _
      · have := hfresh g hg; omega
  have Hfin := Lib.hid hfin
  clear hO h0 hfresh hf4 hfin c0 c1 c2 hA
  go_wp2
  go_ret
  exact ⟨_, _, rfl, Hfin.out⟩

/-- the lines from a place on are gone -/
theorem dk_cut {p : Nat} {ao : Option Addr} {n cap : Nat} {room : Int} {ls : List ByteArray} {lasts : Nat} {w : World} (h : Dk w p (.slice ao n cap) room ls lasts) (m : Nat) (hm : m ≤ n) :
    DkPre (w.setCell ⟨p, 1, none⟩ (.slice ao m m)) p (.slice ao m m) room (ls.take m) lasts ∧ Fr (fun g => g = p) w (w.setCell ⟨p, 1, none⟩ (.slice ao m m)) ∧ (ls.take m).length = m ∧ Value.ownBlock (.slice ao m m) = Value.ownBlock (.slice ao n cap) := by
  obtain ⟨_, _, he, h1, h2⟩ := h.row.cap
  cases he
  have hf1 : Fr (fun g => g = p) w (w.setCell ⟨p, 1, none⟩ (.slice ao m m)) := (Fr.refl (fun g => g = p) w).setCell (p := ⟨p, 1, none⟩) (fun _ => rfl) _
  have hrow : Sl w 9 1 (.slice ao m m) m ((ls.take m).map Value.string) := by
    obtain ⟨hl, ao', cap', he, hn, hmx, hz, hc⟩ := h.row
    cases he
    refine ⟨by rw [List.length_map, List.length_take, Nat.mul_one]; omega, ao, m, rfl, Nat.le_refl _, by omega, ⟨fun e => by have := hz.1 e; omega, hz.2⟩, fun h0 => ?_⟩
    obtain ⟨g, off, cs, rfl, hg, hs, hx⟩ := hc (by omega)
    refine ⟨g, off, cs, rfl, hg, by omega, fun j u hj => hx j u ?_⟩
    rw [List.getElem?_map, List.getElem?_take] at hj
    split at hj
    · rw [List.getElem?_map]; exact hj
    · simp at hj
  have hml : (ls.take m).length = m := by rw [List.length_take]; omega
  have hown : Value.ownBlock (.slice ao m m) = Value.ownBlock (.slice ao ls.length cap) := by cases ao <;> rfl
  have hne : (Value.slice ao m m).ownBlock ≠ some p := by rw [hown]; exact h.ne
  refine ⟨⟨heap_setC _ h.cell, ?_, hne, by have := dUsed_take ls m; have := h.used; omega, h.room⟩, hf1, hml, hown⟩
  rw [hml]
  exact hrow.fr hf1 (fun g hg e => hne (by rw [← e]; exact hg))

theorem run_cut3 {P : Program} (t e : TypeId) (i : TypeInfo) (ht : P.underlying t = some (.slice e)) (hi : P.info? e = some i) (ao : Option Addr) (n cap m : Nat) (h : m ≤ cap) (h2 : ao = none → cap = 0) :
    (∀ w, (Instr.slice t (.slice ao n cap) none (some (.int .i64 m)) (some (.int .i64 m))).run P w = .ok (.slice ao m m) w) := by
  intro w
  cases ao with
  | none =>
    have := h2 rfl
    obtain rfl : m = 0 := by omega
    simp [Instr.slice, run_underlying ht, Instr.sliceBounds, Instr.sliceBound, asIntOf, h, sizeOf, typeInfo, hi]
  | some a =>
    simp [Instr.slice, run_underlying ht, Instr.sliceBounds, Instr.sliceBound, asIntOf, h, sizeOf, typeInfo, hi]
    intro _
    simp [Addr.add]

/-- what Cut tells -/
def dCutR (ls : List ByteArray) (lasts : Nat) (k : Int) : Int := if k < 0 ∨ (ls.length : Int) < k then 1 else if lasts < ls.length then 12 else 0

set_option maxHeartbeats 1000000 in
theorem dCutNo {p : Nat} {v : Value} {room : Int} {ls : List ByteArray} {lasts : Nat} {w : World} (k : Int) (h : Dk w p v room ls lasts) (hr : dCutR ls lasts k ≠ 0) : Calls Try.prog 18 #[.pointer (some ⟨p, 0, none⟩), .int .i64 k] w fun e w' => e = .returned (.int .i64 (dCutR ls lasts k)) ∧ Fr no w w' := by
  have hres : ∀ r : Int, dCutR ls lasts k = r → Hid (dCutR ls lasts k = r) := fun r h => h
  have c1 := h.c1
  have hlen := h.len
  obtain ⟨ao, cap, hv, hcap, hmx⟩ := h.row.cap
  subst hv
  have Hw := Lib.hid (dWaits h)
  clear h
  by_cases h0 : k < 0
  · have R := hres 1 (by rw [dCutR, if_pos (.inl h0)])
    clear hres hr Hw
    go_enter Try.func18, Try.ntmps18
    go_wp2
    go_ret
    rw [R.out]
    exact ⟨rfl, Fr.refl _ _⟩
  · by_cases h1 : (ls.length : Int) < k
    · have R := hres 1 (by rw [dCutR, if_pos (.inr h1)])
      clear hres hr Hw
      generalize ls.length = n at *
      go_enter Try.func18, Try.ntmps18
      go_wp2
      go_ret
      rw [R.out]
      exact ⟨rfl, Fr.refl _ _⟩
    · by_cases h2 : lasts < ls.length
      · have R := hres 12 (by rw [dCutR, if_neg (by omega), if_pos h2])
        obtain ⟨d, hd⟩ : ∃ d, ls.length - lasts = d := ⟨_, rfl⟩
        rw [hd] at Hw
        have hd0 : 0 < d := by omega
        clear hres hr hd
        generalize ls.length = n at *
        go_enter Try.func18, Try.ntmps18
        go_wp2_with fail
        refine Hw.out.mono ?_
        rintro e w' ⟨rfl, hf⟩
        have HF := Lib.hid hf
        clear hf Hw
        go_wp2
        go_ret
        rw [R.out]
        exact ⟨rfl, HF.out⟩
      · exact absurd (by rw [dCutR, if_neg (by omega), if_neg h2]) hr

set_option maxHeartbeats 1000000 in
theorem dCut {p : Nat} {v : Value} {room : Int} {ls : List ByteArray} {lasts : Nat} {w : World} (m : Nat) (h : Dk w p v room ls lasts) (hm : m ≤ ls.length) (hl : lasts = ls.length) : Calls Try.prog 18 #[.pointer (some ⟨p, 0, none⟩), .int .i64 m] w fun e w' =>
    e = .returned (.int .i64 0) ∧ ∃ v', Dk w' p v' room (ls.take m) m ∧ Fr (dOwn p v) w w' ∧ ∀ g, dOwn p v' g → dOwn p v g := by
  have hlen := h.len
  obtain ⟨ao, cap, hv, hcap, hmx⟩ := h.row.cap
  subst hv
  have hz : ao = none → cap = 0 := by
    obtain ⟨_, ao', cap', he, _, _, hz, _⟩ := h.row
    cases he
    exact hz.1
  have Hw := Lib.hid (dWaits h)
  rw [hl, Nat.sub_self] at Hw
  have H := Lib.hid h
  have c1 := h.c1
  clear h hl
  obtain ⟨i0, hi0, hz0', hz1', hz2'⟩ := info_parts (show (Try.prog.info? 9).map (fun i => (i.zero, i.size, i.bytes)) = some (some (.string ByteArray.empty), 1, 16) by kernel_rfl)
  have q1 := run_cut3 (P := Try.prog) 40 9 i0 Try.underlying40 hi0 ao ls.length cap m (by omega) hz
  clear hi0 hz0' hz1' hz2' hz
  generalize hn : ls.length = n at *
  have Hn := Lib.hid hn
  clear hn
  go_enter Try.func18, Try.ntmps18
  go_wp2_with fail
  refine Hw.out.mono ?_
  rintro e w1 ⟨rfl, hf1⟩
  have h1 := H.out.fr0 hf1
  have c1' := h1.c1
  have f1' := h1.fz 1
  obtain ⟨hp2, hf2, hml, hown⟩ := dk_cut h1 m hm
  have F1 := Lib.hid hf1
  have F2 := Lib.hid hf2
  have P2 := Lib.hid hp2
  have Hml := Lib.hid hml
  have Hown := Lib.hid hown
  clear h1 hp2 hf2 hf1 hml hown Hw c1
  go_wp2_with fail
  refine (dSync0 P2.out).mono ?_
  rintro e w3 ⟨⟨u, rfl⟩, hd3, hf3⟩
  rw [Hml.out] at hd3
  have D3 := Lib.hid hd3
  have F3 := Lib.hid hf3
  clear hd3 hf3 P2 c1' f1' q1
  go_wp2
  go_ret
  refine ⟨rfl, _, D3.out, (((F1.out.mono (fun _ _ f => f.elim)).trans' (F2.out.mono (fun _ _ e => .inl e))).trans' (F3.out.mono (fun _ _ e => .inl e))), fun g hg => hg.elim (fun e => .inl e) (fun e => .inr (by rw [← Hown.out]; exact e))⟩

/-- what holds between two rounds of Crash: w + 0 (d), + 1 (keep), + 2 (at), + 3 (the lines) -/
def CrI (w : World) (p : Nat) (v : Value) (room : Int) (ls : List ByteArray) (lasts : Nat) (keep : Int) (s : List (Nat × ByteArray)) (W : World) : Prop :=
  ∃ (k : Nat) (kp : Int), s = enumG (ls.drop k) k ∧ k ≤ ls.length ∧ 0 ≤ kp ∧ kp ≤ 9223372036854775807 ∧ crashN ls lasts keep = max k lasts + crashFrom (ls.drop (max k lasts)) kp ∧
    W.heap[w.heap.size]? = some (.cells #[.pointer (some ⟨p, 0, none⟩)] 25 (0, 0)) ∧ W.heap[w.heap.size + 1]? = some (.cells #[.int .i64 kp] 3 (0, 0)) ∧ W.heap[w.heap.size + 2]? = some (.cells #[.int .i64 k] 3 (0, 0)) ∧ W.heap[w.heap.size + 3]? = some (.cells #[v] 40 (0, 0)) ∧ Dk W p v room ls lasts ∧ Fr no w W
/-- .. where it has been left -/
def CrX (w : World) (p : Nat) (v : Value) (room : Int) (ls : List ByteArray) (lasts : Nat) (keep : Int) (W : World) : Prop :=
  W.heap[w.heap.size]? = some (.cells #[.pointer (some ⟨p, 0, none⟩)] 25 (0, 0)) ∧ W.heap[w.heap.size + 2]? = some (.cells #[.int .i64 (crashN ls lasts keep : Nat)] 3 (0, 0)) ∧ Dk W p v room ls lasts ∧ Fr no w W

theorem crash_skip {ls : List ByteArray} {k lasts : Nat} {kp : Int} (h : k < lasts) : max (k + 1) lasts + crashFrom (ls.drop (max (k + 1) lasts)) kp = max k lasts + crashFrom (ls.drop (max k lasts)) kp := by
  rw [Nat.max_eq_right (by omega : k + 1 ≤ lasts), Nat.max_eq_right (by omega : k ≤ lasts)]
theorem crash_take {ls : List ByteArray} {k lasts : Nat} {kp : Int} {u : ByteArray} (h : lasts ≤ k) (hu : ls[k]? = some u) :
    ((u.size : Int) + 1 ≤ kp → max (k + 1) lasts + crashFrom (ls.drop (max (k + 1) lasts)) (kp - (u.size + 1)) = max k lasts + crashFrom (ls.drop (max k lasts)) kp) ∧ (¬ (u.size : Int) + 1 ≤ kp → max k lasts + crashFrom (ls.drop (max k lasts)) kp = k) := by
  obtain ⟨hk, hx⟩ := List.getElem?_eq_some_iff.1 hu
  rw [Nat.max_eq_left (by omega : lasts ≤ k + 1), Nat.max_eq_left h, List.drop_eq_getElem_cons hk, hx]
  constructor
  · intro h1; rw [crashFrom, if_pos h1]; omega
  · intro h1; rw [crashFrom, if_neg h1]; omega

set_option maxRecDepth 10000 in
set_option maxHeartbeats 4000000 in
theorem dCrash {p : Nat} {v : Value} {room : Int} {ls : List ByteArray} {lasts : Nat} {w : World} (keep : Int) (h : Dk w p v room ls lasts) (hk1 : keep ≤ 9223372036854775807) : Calls Try.prog 16 #[.pointer (some ⟨p, 0, none⟩), .int .i64 keep] w fun e w' =>
    (∃ u, e = .returned u) ∧ ∃ v', Dk w' p v' room (ls.take (crashN ls lasts keep)) (crashN ls lasts keep) ∧ Fr (dOwn p v) w w' ∧ ∀ g, dOwn p v' g → dOwn p v g := by
  have H := Lib.hid h
  have hlen := h.len
  have hll := h.lasts
  clear h
  refine calls_of_in (n := 4) free_wide (callsIn_of_wp_marks Try.func16 rfl trivial (wpIn_wide.2 ?_) rfl)
  simp only [Try.ntmps16, List.size_toArray, List.length_cons, List.length_nil, Nat.reduceAdd, Nat.reduceSub, Array.replicate_succ, Array.replicate_zero, List.push_toArray, List.append_toArray, List.nil_append, List.cons_append]
  go_wp2_with fail
  go_step3
  go_upto_region 1 with (fail)
  go_cut [8] from 7 to 8 (fun u wx => ∃ kp : Int, 0 ≤ kp ∧ kp ≤ 9223372036854775807 ∧ Hid (max keep 0 = kp) ∧ (w.alloc (.cells #[.pointer (some ⟨p, 0, none⟩)] 25)).alloc (.cells #[.int .i64 kp] 3) = wx)
  case first =>
    go_wp2
    go_meet
    exact ⟨max keep 0, by omega, by omega, Lib.hid rfl, rfl⟩
  case rest =>
  obtain ⟨kp, hkp0, hkp1, hkp, rfl⟩ := hcut
  go_wp2_with fail
  go_step3
  have hf1 : Fr no w (((w.alloc (.cells #[.pointer (some ⟨p, 0, none⟩)] 25)).alloc (.cells #[.int .i64 kp] 3)).alloc (.cells #[.int .i64 0] 3)) := (((Fr.refl no w).alloc _).alloc _).alloc _
  go_wp2_with fail
  refine (dLines (H.out.fr0 hf1)).mono ?_
  rintro e w2 ⟨rfl, hw2⟩
  have hf2 : Fr no w w2 := by rw [← hw2]; exact hf1.alloc _
  have hI0 : CrI w p v room ls lasts keep (enumG ls 0) w2 := by
    refine ⟨0, kp, rfl, Nat.zero_le _, hkp0, hkp1, ?_, ?_, ?_, ?_, ?_, H.out.fr0 hf2, hf2⟩
    · rw [Nat.max_eq_right (Nat.zero_le _), crashN, ← hkp.out, crashFrom_max]
    all_goals rw [← hw2]; simp only [alloc_get, World.size_alloc, Nat.add_assoc]; simp
  have hs2 : w.heap.size + 1 + 1 + 1 + 1 = w2.heap.size := by rw [← hw2]; simp
  have HI0 := Lib.hid hI0
  clear hw2 hI0 hf2 hf1 hkp
  have hIbk : ∀ s W W', CrI w p v room ls lasts keep s W → Bk w2.heap.size W W' → CrI w p v room ls lasts keep s W' := by
    rintro s W W' ⟨k, kp, a1, a2, a3, a4, a5, a6, a7, a8, a9, a10, a11⟩ hb
    exact ⟨k, kp, a1, a2, a3, a4, a5, hb.heap a6 rfl, hb.heap a7 rfl, hb.heap a8 rfl, hb.heap a9 rfl, a10.bk hb, hb.fr a11 (by omega)⟩
  simp only [World.size_alloc]
  go_wp2_with fail
  refine (wpIn_wide (n := 3)).1 ?_
  refine wpIn_each (ls := enumG ls 0) rfl (by intro h; cases h) (gf := 31) (lb := #[.pointer (some ⟨w.heap.size + 1 + 1 + 1, 0, none⟩)]) rfl trivial (enters_of Try.func31 (by kernel_rfl) rfl)
    (dIter (w.heap.size + 1 + 1 + 1) ls.length v ls) (fun _ => rfl) (CrI w p v room ls lasts keep) (fun c W => c = .exit 0 ∧ CrX w p v room ls lasts keep W)
    hIbk ?hIx ?hPre HI0.out ?round ?done ?stop
  case hIx =>
    rintro c W W' ⟨rfl, b1, b2, b3, b4⟩ hb
    exact ⟨rfl, hb.heap b1 rfl, hb.heap b2 rfl, b3.bk hb, hb.fr b4 (by omega)⟩
  case hPre =>
    rintro s W ⟨k, kp, a1, a2, a3, a4, a5, a6, a7, a8, a9, a10, a11⟩
    exact ⟨cell_of_block a9 rfl, a10.row.rd⟩
  case round =>
    rintro l W x s h
    gi_wp2
    refine ⟨Kb.refl _, fun l W' hb hl => ?_⟩
    obtain ⟨k, kp, a1, a2, a3, a4, a5, a6, a7, a8, a9, a10, a11⟩ := hIbk _ _ _ h hb
    clear hb h hIbk HI0
    obtain ⟨u, hu, rfl, rfl⟩ := enumG_cons a1.symm
    have hkl := (List.getElem?_eq_some_iff.1 hu).1
    have hus : u.size ≤ 1048576 := by have := dUsed_mem (List.mem_of_getElem? hu); have := a10.usedN; omega
    have e0 : W'.cell? ⟨w.heap.size, 0, none⟩ = some (.pointer (some ⟨p, 0, none⟩)) := cell_of_block a6 rfl
    have e1 : W'.cell? ⟨w.heap.size + 1, 0, none⟩ = some (.int .i64 kp) := cell_of_block a7 rfl
    have g1 : W'.frozen? ⟨w.heap.size + 1, 0, none⟩ = false := frozen_of_block a7
    have e2 : W'.cell? ⟨w.heap.size + 1 + 1, 0, none⟩ = some (.int .i64 k) := cell_of_block a8 rfl
    have g2 : W'.frozen? ⟨w.heap.size + 1 + 1, 0, none⟩ = false := frozen_of_block a8
    have e3 := a10.c2
    by_cases hkl2 : k < lasts
    · have hfin : Kb W' (W'.setCell ⟨w.heap.size + 1 + 1, 0, none⟩ (.int .i64 ((k : Int) + 1))) ∧ CrI w p v room ls lasts keep (enumG (ls.drop (k + 1)) (k + 1)) (W'.setCell ⟨w.heap.size + 1 + 1, 0, none⟩ (.int .i64 ((k : Int) + 1))) := by
        have hf : Fr (fun g => g = w.heap.size + 1 + 1) W' (W'.setCell ⟨w.heap.size + 1 + 1, 0, none⟩ (.int .i64 ((k : Int) + 1))) := (Fr.refl (fun g => g = w.heap.size + 1 + 1) W').setCell (p := ⟨w.heap.size + 1 + 1, 0, none⟩) (fun _ => rfl) _
        exact ⟨Kb.setCell _ _ _, k + 1, kp, rfl, by omega, a3, a4, a5.trans (crash_skip hkl2).symm, hf.heap a6 (by omega), hf.heap a7 (by omega), heap_setC (j := 0) _ a8, hf.heap a9 (by omega), a10.fr hf (fun g hg e => by have := H.out.lt g hg; omega), a11.trans hf (fun i hi e => by omega)⟩
      have Hfin := Lib.hid hfin
      clear hfin a1 a5 a6 a7 a8 a9 a10 a11 hu
      gi_wp2
      exact Hfin.out
    · obtain ⟨tk1, tk2⟩ := crash_take (kp := kp) (Nat.le_of_not_lt hkl2) hu
      have hw1 : IntKind.i64.wrap ((u.size : Int) + 1) = (u.size : Int) + 1 := IntWalk.i64_in _ (by omega)
      have hw2' : IntKind.i64.wrap (kp - ((u.size : Int) + 1)) = kp - ((u.size : Int) + 1) := IntWalk.i64_in _ (by omega)
      have hf1 : Fr (fun g => g = w.heap.size + 1) W' (W'.setCell ⟨w.heap.size + 1, 0, none⟩ (.int .i64 (kp - ((u.size : Int) + 1)))) := (Fr.refl (fun g => g = w.heap.size + 1) W').setCell (p := ⟨w.heap.size + 1, 0, none⟩) (fun _ => rfl) _
      have hnw : ∀ g, dOwn p v g → g ≠ w.heap.size + 1 ∧ g ≠ w.heap.size + 1 + 1 := fun g hg => by have := H.out.lt g hg; omega
      by_cases hfit : (u.size : Int) + 1 ≤ kp
      · have hfin : Kb W' ((W'.setCell ⟨w.heap.size + 1, 0, none⟩ (.int .i64 (kp - ((u.size : Int) + 1)))).setCell ⟨w.heap.size + 1 + 1, 0, none⟩ (.int .i64 ((k : Int) + 1))) ∧ CrI w p v room ls lasts keep (enumG (ls.drop (k + 1)) (k + 1)) ((W'.setCell ⟨w.heap.size + 1, 0, none⟩ (.int .i64 (kp - ((u.size : Int) + 1)))).setCell ⟨w.heap.size + 1 + 1, 0, none⟩ (.int .i64 ((k : Int) + 1))) := by
          have hf : Fr (fun g => g = w.heap.size + 1 + 1) (W'.setCell ⟨w.heap.size + 1, 0, none⟩ (.int .i64 (kp - ((u.size : Int) + 1)))) ((W'.setCell ⟨w.heap.size + 1, 0, none⟩ (.int .i64 (kp - ((u.size : Int) + 1)))).setCell ⟨w.heap.size + 1 + 1, 0, none⟩ (.int .i64 ((k : Int) + 1))) := (Fr.refl (fun g => g = w.heap.size + 1 + 1) _).setCell (p := ⟨w.heap.size + 1 + 1, 0, none⟩) (fun _ => rfl) _
          refine ⟨(Kb.setCell _ _ _).trans (Kb.setCell _ _ _), k + 1, kp - ((u.size : Int) + 1), rfl, by omega, by omega, by omega, a5.trans (tk1 hfit).symm, hf.heap (hf1.heap a6 (by omega)) (by omega), hf.heap (heap_setC (j := 0) _ a7) (by omega), heap_setC (j := 0) _ (hf1.heap a8 (by omega)), hf.heap (hf1.heap a9 (by omega)) (by omega), (a10.fr hf1 (fun g hg e => (hnw g hg).1 e)).fr hf (fun g hg e => (hnw g hg).2 e), (a11.trans hf1 (fun i hi e => by omega)).trans hf (fun i hi e => by omega)⟩
        have Hfin := Lib.hid hfin
        have e2' := hf1.cell (p := ⟨w.heap.size + 1 + 1, 0, none⟩) e2 (fun e => by simp at e)
        have g2' : (W'.setCell ⟨w.heap.size + 1, 0, none⟩ (.int .i64 (kp - ((u.size : Int) + 1)))).frozen? ⟨w.heap.size + 1 + 1, 0, none⟩ = false := frozen_of_block (hf1.heap a8 (by omega))
        clear hfin a1 a5 a6 a7 a8 a9 a10 a11 hu tk1 tk2 hf1 hnw e2 g2
        have hneg : ¬ kp - ((u.size : Int) + 1) < 0 := by omega
        gi_wp2
        exact Hfin.out
      · have hfin : Kb W' (W'.setCell ⟨w.heap.size + 1, 0, none⟩ (.int .i64 (kp - ((u.size : Int) + 1)))) ∧ ((Code.exit 0 = Code.exit 0) ∧ CrX w p v room ls lasts keep (W'.setCell ⟨w.heap.size + 1, 0, none⟩ (.int .i64 (kp - ((u.size : Int) + 1))))) := by
          refine ⟨Kb.setCell _ _ _, rfl, hf1.heap a6 (by omega), ?_, a10.fr hf1 (fun g hg e => (hnw g hg).1 e), a11.trans hf1 (fun i hi e => by omega)⟩
          rw [a5, tk2 hfit]
          exact hf1.heap a8 (by omega)
        have Hfin := Lib.hid hfin
        have hneg : kp - ((u.size : Int) + 1) < 0 := by omega
        clear hfin a1 a5 a6 a7 a8 a9 a10 a11 hu tk1 tk2 hf1 hnw
        gi_wp2
        exact ⟨Hfin.out.1, rfl, Hfin.out.2.2⟩
  case done =>
    rintro D W hD ⟨k, kp, a1, a2, a3, a4, a5, a6, a7, a8, a9, a10, a11⟩ hd
    have hk := enumG_nil a1.symm
    have hX : CrX w p v room ls lasts keep W := by
      refine ⟨a6, ?_, a10, a11⟩
      rw [a5, show max k lasts = k by omega, List.drop_eq_nil_of_le hk]
      exact a8
    clear a1 a2 a3 a4 a5 a6 a7 a8 a9 a10 a11 hk
    obtain ⟨b1, b2, b3, b4⟩ := hX
    obtain ⟨ao, cap, hv, hcap, hmx⟩ := b3.row.cap
    have hz0 : ∀ ao, v = .slice ao ls.length cap → ao = none → cap = 0 := fun ao hv => by
      obtain ⟨_, ao', cap', he, _, _, hz, _⟩ := b3.row
      rw [hv] at he
      cases he
      exact hz.1
    have hz1 := hz0 ao hv
    clear hz0
    subst hv
    have hM := crashN_le keep hll
    have hdw : Fr no W W.drew := (Fr.refl no W).drewN 1
    obtain ⟨M, hM'⟩ : ∃ M, crashN ls lasts keep = M := ⟨_, rfl⟩
    rw [hM'] at b2 hM
    obtain ⟨i0, hi0, hz0', hz1', hz2'⟩ := info_parts (show (Try.prog.info? 9).map (fun i => (i.zero, i.size, i.bytes)) = some (some (.string ByteArray.empty), 1, 16) by kernel_rfl)
    have q1 := run_cut3 (P := Try.prog) 40 9 i0 Try.underlying40 hi0 ao ls.length cap M (by omega) hz1
    have h3 := b3.fr0 hdw
    have e0 : W.drew.cell? ⟨w.heap.size, 0, none⟩ = some (.pointer (some ⟨p, 0, none⟩)) := cell_of_block (hdw.heap b1 (fun f => f)) rfl
    have e2 : W.drew.cell? ⟨w.heap.size + 1 + 1, 0, none⟩ = some (.int .i64 M) := cell_of_block (hdw.heap b2 (fun f => f)) rfl
    have c1 := h3.c1
    have f1 := h3.fz 1
    obtain ⟨hp2, hf2, hml, hown⟩ := dk_cut h3 M hM
    have e0' := hf2.cell (p := ⟨w.heap.size, 0, none⟩) e0 (fun e => by have := H.out.lt p (.inl rfl); simp at e; omega)
    have hd2 := hf2.heap (hdw.heap hd (fun f => f)) (fun e => by have := H.out.lt p (.inl rfl); omega)
    have B4 := Lib.hid b4
    have Hdw := Lib.hid hdw
    have Hd2 := Lib.hid hd2
    have F2 := Lib.hid hf2
    have P2 := Lib.hid hp2
    have Hml := Lib.hid hml
    have Hown := Lib.hid hown
    have HM' := Lib.hid hM'
    clear b1 b2 b3 b4 hd h3 hp2 hf2 hml hown hdw hd2 hz1 hi0 hz0' hz1' hz2' hIbk HI0 hM'
    have Hlt := Lib.hid (fun g hg => H.out.lt g hg)
    generalize hn : ls.length = n at *
    have Hn := Lib.hid hn
    clear hn
    go_wp2_with fail
    go_still_tail 10, (by kernel_rfl)
    change wpList _ _ _ _ _ W.drew
    generalize W.drew = W1 at *
    go_wp2_with fail
    refine (dSync0 P2.out).mono ?_
    rintro e w3 ⟨⟨u, rfl⟩, hd3, hf3⟩
    rw [Hml.out] at hd3
    have D3 := Lib.hid hd3
    have F3 := Lib.hid hf3
    clear hd3 hf3 P2 c1 f1 q1
    go_wp2
    have hd3 := F3.out.heap Hd2.out (fun e => by have := H.out.lt p (.inl rfl); omega)
    refine leaveMn D [D] rfl (fun r hr => by simp at hr; subst hr; exact ⟨Nat.le_refl _, hd3⟩) (by simp) (fun Wf hbf => ?_)
    refine ⟨.tuple #[], by simp [results, Try.results16, go_sem], ⟨_, rfl⟩, ?_⟩
    rw [HM'.out, Hn.out]
    exact ⟨_, D3.out.bk hbf, hbf.fr ((((B4.out.mono (fun _ _ f => f.elim)).trans' (Hdw.out.mono (fun _ _ f => f.elim))).trans' (F2.out.mono (fun _ _ e => .inl e))).trans' (F3.out.mono (fun _ _ e => .inl e))) (by omega), fun g hg => hg.elim (fun e => .inl e) (fun e => .inr (by rw [← Hown.out]; exact e))⟩
  case stop =>
    rintro D c W hD ⟨rfl, hX⟩ hd
    refine wpIn_exit ?_
    obtain ⟨b1, b2, b3, b4⟩ := hX
    obtain ⟨ao, cap, hv, hcap, hmx⟩ := b3.row.cap
    have hz0 : ∀ ao, v = .slice ao ls.length cap → ao = none → cap = 0 := fun ao hv => by
      obtain ⟨_, ao', cap', he, _, _, hz, _⟩ := b3.row
      rw [hv] at he
      cases he
      exact hz.1
    have hz1 := hz0 ao hv
    clear hz0
    subst hv
    have hM := crashN_le keep hll
    have hdw : Fr no W W.drew := (Fr.refl no W).drewN 1
    obtain ⟨M, hM'⟩ : ∃ M, crashN ls lasts keep = M := ⟨_, rfl⟩
    rw [hM'] at b2 hM
    obtain ⟨i0, hi0, hz0', hz1', hz2'⟩ := info_parts (show (Try.prog.info? 9).map (fun i => (i.zero, i.size, i.bytes)) = some (some (.string ByteArray.empty), 1, 16) by kernel_rfl)
    have q1 := run_cut3 (P := Try.prog) 40 9 i0 Try.underlying40 hi0 ao ls.length cap M (by omega) hz1
    have h3 := b3.fr0 hdw
    have e0 : W.drew.cell? ⟨w.heap.size, 0, none⟩ = some (.pointer (some ⟨p, 0, none⟩)) := cell_of_block (hdw.heap b1 (fun f => f)) rfl
    have e2 : W.drew.cell? ⟨w.heap.size + 1 + 1, 0, none⟩ = some (.int .i64 M) := cell_of_block (hdw.heap b2 (fun f => f)) rfl
    have c1 := h3.c1
    have f1 := h3.fz 1
    obtain ⟨hp2, hf2, hml, hown⟩ := dk_cut h3 M hM
    have e0' := hf2.cell (p := ⟨w.heap.size, 0, none⟩) e0 (fun e => by have := H.out.lt p (.inl rfl); simp at e; omega)
    have hd2 := hf2.heap (hdw.heap hd (fun f => f)) (fun e => by have := H.out.lt p (.inl rfl); omega)
    have B4 := Lib.hid b4
    have Hdw := Lib.hid hdw
    have Hd2 := Lib.hid hd2
    have F2 := Lib.hid hf2
    have P2 := Lib.hid hp2
    have Hml := Lib.hid hml
    have Hown := Lib.hid hown
    have HM' := Lib.hid hM'
    clear b1 b2 b3 b4 hd h3 hp2 hf2 hml hown hdw hd2 hz1 hi0 hz0' hz1' hz2' hIbk HI0 hM'
    have Hlt := Lib.hid (fun g hg => H.out.lt g hg)
    generalize hn : ls.length = n at *
    have Hn := Lib.hid hn
    clear hn
    go_wp2_with fail
    go_still_tail 10, (by kernel_rfl)
    change wpList _ _ _ _ _ W.drew
    generalize W.drew = W1 at *
    go_wp2_with fail
    refine (dSync0 P2.out).mono ?_
    rintro e w3 ⟨⟨u, rfl⟩, hd3, hf3⟩
    rw [Hml.out] at hd3
    have D3 := Lib.hid hd3
    have F3 := Lib.hid hf3
    clear hd3 hf3 P2 c1 f1 q1
    go_wp2
    have hd3 := F3.out.heap Hd2.out (fun e => by have := H.out.lt p (.inl rfl); omega)
    refine leaveMn D [D] rfl (fun r hr => by simp at hr; subst hr; exact ⟨Nat.le_refl _, hd3⟩) (by simp) (fun Wf hbf => ?_)
    refine ⟨.tuple #[], by simp [results, Try.results16, go_sem], ⟨_, rfl⟩, ?_⟩
    rw [HM'.out, Hn.out]
    exact ⟨_, D3.out.bk hbf, hbf.fr ((((B4.out.mono (fun _ _ f => f.elim)).trans' (Hdw.out.mono (fun _ _ f => f.elim))).trans' (F2.out.mono (fun _ _ e => .inl e))).trans' (F3.out.mono (fun _ _ e => .inl e))) (by omega), fun g hg => hg.elim (fun e => .inl e) (fun e => .inr (by rw [← Hown.out]; exact e))⟩
end Go.Proofs.Ythlcbhpdbcnmjaa
