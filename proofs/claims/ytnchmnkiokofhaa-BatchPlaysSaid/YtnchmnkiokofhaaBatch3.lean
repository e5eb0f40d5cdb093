/- Contracts of the package batch, at ints: the iterator that Take tells. -/
import Derived.Test.YtnchmnkiokofhaaBatch2
import Derived.Test.YtnchmnkiokofhaaQuiet
namespace Go.Proofs.Ytnchmnkiokofhaa
open Go.RowKit Go.Shelf Go.XL
set_option linter.unusedVariables false
set_option linter.unusedSimpArgs false
attribute [local go_sem] Oper.semAt_some

/-- what the iterator asks of the world when it has told i of xs -/
def TkPre (c b : Nat) (size room : Int) (xs : List Int) (G : Option Nat) (i : Nat) (W : World) : Prop :=
  W.cell? ⟨c, 0, none⟩ = some (.pointer (some ⟨b, 0, none⟩)) ∧ Bat W b size room (xs.drop i) G ∧ c ≠ b
def TkStep (c b : Nat) (size room : Int) (xs : List Int) (G : Option Nat) (m : Nat) (i : Nat) (W : World) (x : Int) (i' : Nat) (W1 : World) : Prop :=
  i < m ∧ i' = i + 1 ∧ xs[i]? = some x ∧ Bat W1 b size room (xs.drop (i + 1)) G ∧ Fr (fun k => k = b) W W1
def TkDone (m : Nat) (i : Nat) (W W' : World) : Prop := i = m ∧ ∃ q, W' = W.drewN q

theorem take_iter (c b : Nat) (size room : Int) (xs : List Int) (G : Option Nat) (m : Nat) (hm : (m : Int) = min size xs.length) (h0 : 0 ≤ size) (hs : xs.length ≤ 1000) :
    IterC Fence.wide 2 Try.prog 16 #[.pointer (some ⟨c, 0, none⟩)] (fun x : Int => #[.int .i64 x]) (TkPre c b size room xs G) (TkStep c b size room xs G m) (TkDone m) 0 := by
  intro l J Jx W hJ hPre hY
  obtain ⟨hc, ⟨v, hb, hs', hG, hne⟩, hcb⟩ := hPre 0 W hJ
  obtain ⟨ao, cap, rfl, hcap, hmx⟩ := hs'.cap
  have hc0 : W.cell? ⟨b, 0, none⟩ = some (.int .i64 size) := cell_of_block hb rfl
  have hc2 : W.cell? ⟨b, 2, none⟩ = some (.slice ao xs.length cap) := cell_of_block hb rfl
  clear hb hs' hG hne
  refine callsIn_of_wp Try.func16 rfl trivial ?_ rfl
  simp only [Try.ntmps16, List.size_toArray, List.length_cons, List.length_nil, Nat.reduceAdd, Nat.reduceSub, Array.replicate_succ, Array.replicate_zero, List.push_toArray, List.append_toArray, List.nil_append, List.cons_append]
  by_cases hle : size ≤ xs.length
  · have he : size = (m : Int) := by omega
    have hm2 : m ≤ xs.length := by omega
    clear hm
    subst he
    gi_wp2
    refine wpIn_region_q free_wide (by kernel_rfl) (by kernel_rfl) (by kernel_rfl) ?_
    repeat (go_big_quiet_step (fail))
    refine wpQuiet_nil ?_
    intro _ hw'
    obtain ⟨nq, hw''⟩ := hw'
    subst hw''
    gi_wp2
    clear hc hc0 hc2
    gi_loopw [14] (fun i wr => ∃ (k : Nat) (W0 : World) (q : Nat), k ≤ m ∧ i = .int .i64 k ∧ J k W0 ∧ wr = W0.drewN q) (fun i _ => m - (intOf i).toNat)
    case atStart => exact ⟨0, W, _, Nat.zero_le _, rfl, hJ, rfl⟩
    case round =>
      obtain ⟨k, W0, q, hk, rfl, hJk, rfl⟩ := hrel
      by_cases hlt : k < m
      · have hP := hPre k W0 hJk
        obtain ⟨hc, ⟨v, hb, hs', hG, hne⟩, hcb⟩ := hP
        have hdl : (xs.drop k).length = xs.length - k := List.length_drop
        obtain ⟨g, off, cap, cs, rfl, hn, hmx, hg, hsz, hx⟩ := hs'.form (by omega)
        have hx0 := cell_of_block hg (hx 0 (.int .i64 xs[k]) (by simp [show k < xs.length by omega]))
        rw [Nat.add_zero] at hx0
        have hc2 : W0.cell? ⟨b, 2, none⟩ = some (.slice (some ⟨g, off, none⟩) (xs.drop k).length cap) := cell_of_block hb rfl
        have hf2 : W0.frozen? ⟨b, 2, none⟩ = false := frozen_of_block hb
        have hl0 : 0 < (xs.drop k).length := by omega
        have Hl := Lib.hid hdl
        have Hb := Lib.hid hb
        have Hs := Lib.hid hs'
        have HG := Lib.hid hG
        clear hdl hb hs' hG hg hx hsz
        generalize (xs.drop k).length = n at *
        gi_wp2
        obtain ⟨i0, hi, hz0, hz1, hz2⟩ := info_parts Try.info3
        obtain ⟨ao1, hcut, hsl, hsl2⟩ := run_cutFrom (P := Try.prog) 30 3 i0 1 Try.underlying30 hi hz1 .i64 (some ⟨g, off, none⟩) n cap 1 (by omega) 1 rfl
        have Hcut := Lib.hid hcut
        have hn1 : (1 : Int) ≤ n := by omega
        clear hcut hi hz0 hz1 hz2
        refine wpIn_region_tail free_wide 6 (by kernel_rfl) (by kernel_rfl) (by kernel_rfl) ?_
        intro K hK
        simp only [List.take_succ_cons, List.take_zero, List.drop_succ_cons, List.drop_zero]
        iterate 6
          refine wpStill_step (fun K2 hK2 => ?_)
          go_simp
          refine hK2 _ ?_
          clear hK2 K2
        refine wpStill_nil ?_
        go_wp2
        have hst : TkStep c b (↑m) room xs G m k W0 xs[k] (k + 1) ((W0.drewN (q + 1)).setCell ⟨b, 2, none⟩ (.slice ao1 (n - 1) (cap - 1))) := by
          have hsl' := Hs.out.cutFrom (k := 1) (by omega)
          rw [Hcut.out] at hsl'
          have hob : Value.ownBlock (.slice ao1 (n - 1) (cap - 1)) = G := by rw [← Hcut.out, ownBlock_cutFrom]; exact HG.out
          have hfr : Fr (fun j => j = b) W0 ((W0.drewN (q + 1)).setCell ⟨b, 2, none⟩ (.slice ao1 (n - 1) (cap - 1))) := ((Fr.refl (fun j => j = b) W0).drewN _).setCell (p := ⟨b, 2, none⟩) (fun _ => rfl) _
          have hlen : (xs.drop (k + 1)).length = n - 1 := by rw [List.length_drop, Hl.out]; omega
          refine ⟨hlt, rfl, by simp [show k < xs.length by omega], ⟨_, heap_setC (w := W0.drewN (q + 1)) _ Hb.out, ?_, hob, hne⟩, hfr⟩
          rw [hlen]
          rw [Nat.mul_one, ← List.map_drop, List.drop_drop] at hsl'
          exact hsl'.fr hfr (fun g' hg' e => hne (by rw [← hob, hg', e]))
        obtain ⟨fn, tmps, assign, body, hy, hR⟩ := hY k W0 _ (k + 1) _ hJk hst
        clear hst hx0 hc2 hf2 hsl hsl2 hc
        gi_wp2
        refine hR.mono ?_
        rintro e W3 (⟨rfl, hJ3⟩ | ⟨rfl, hJx3⟩)
        · gi_wp2
          go_roundw
          case rel => exact ⟨k + 1, W3, 0, by omega, by go_num, hJ3, rfl⟩
          case measure => simp [intOf]; omega
        · gi_wp2
          refine bodyPost_ret (results_none rfl _ _ _) rfl ?_
          exact ⟨⟨_, rfl⟩, .inr hJx3⟩
      · obtain rfl : k = m := by omega
        gi_wp2
        go_end0
        exact ⟨⟨_, rfl⟩, .inl ⟨_, _, hJk, rfl, _, rfl⟩⟩
  · obtain rfl : m = xs.length := by omega
    have hle' : (xs.length : Int) < size := by omega
    clear hm hle
    gi_wp2
    refine wpIn_region_q free_wide (by kernel_rfl) (by kernel_rfl) (by kernel_rfl) ?_
    repeat (go_big_quiet_step (fail))
    refine wpQuiet_nil ?_
    intro _ hw'
    obtain ⟨nq, hw''⟩ := hw'
    subst hw''
    gi_wp2
    clear hc hc0 hc2
    gi_loopw [14] (fun i wr => ∃ (k : Nat) (W0 : World) (q : Nat), k ≤ xs.length ∧ i = .int .i64 k ∧ J k W0 ∧ wr = W0.drewN q) (fun i _ => xs.length - (intOf i).toNat)
    case atStart => exact ⟨0, W, _, Nat.zero_le _, rfl, hJ, rfl⟩
    case round =>
      obtain ⟨k, W0, q, hk, rfl, hJk, rfl⟩ := hrel
      by_cases hlt : k < xs.length
      · have hP := hPre k W0 hJk
        obtain ⟨hc, ⟨v, hb, hs', hG, hne⟩, hcb⟩ := hP
        have hdl : (xs.drop k).length = xs.length - k := List.length_drop
        obtain ⟨g, off, cap, cs, rfl, hn, hmx, hg, hsz, hx⟩ := hs'.form (by omega)
        have hx0 := cell_of_block hg (hx 0 (.int .i64 xs[k]) (by simp [show k < xs.length by omega]))
        rw [Nat.add_zero] at hx0
        have hc2 : W0.cell? ⟨b, 2, none⟩ = some (.slice (some ⟨g, off, none⟩) (xs.drop k).length cap) := cell_of_block hb rfl
        have hf2 : W0.frozen? ⟨b, 2, none⟩ = false := frozen_of_block hb
        have hl0 : 0 < (xs.drop k).length := by omega
        have Hl := Lib.hid hdl
        have Hb := Lib.hid hb
        have Hs := Lib.hid hs'
        have HG := Lib.hid hG
        clear hdl hb hs' hG hg hx hsz
        generalize (xs.drop k).length = n at *
        gi_wp2
        obtain ⟨i0, hi, hz0, hz1, hz2⟩ := info_parts Try.info3
        obtain ⟨ao1, hcut, hsl, hsl2⟩ := run_cutFrom (P := Try.prog) 30 3 i0 1 Try.underlying30 hi hz1 .i64 (some ⟨g, off, none⟩) n cap 1 (by omega) 1 rfl
        have Hcut := Lib.hid hcut
        have hn1 : (1 : Int) ≤ n := by omega
        clear hcut hi hz0 hz1 hz2
        refine wpIn_region_tail free_wide 6 (by kernel_rfl) (by kernel_rfl) (by kernel_rfl) ?_
        intro K hK
        simp only [List.take_succ_cons, List.take_zero, List.drop_succ_cons, List.drop_zero]
        iterate 6
          refine wpStill_step (fun K2 hK2 => ?_)
          go_simp
          refine hK2 _ ?_
          clear hK2 K2
        refine wpStill_nil ?_
        go_wp2
        have hst : TkStep c b size room xs G xs.length k W0 xs[k] (k + 1) ((W0.drewN (q + 1)).setCell ⟨b, 2, none⟩ (.slice ao1 (n - 1) (cap - 1))) := by
          have hsl' := Hs.out.cutFrom (k := 1) (by omega)
          rw [Hcut.out] at hsl'
          have hob : Value.ownBlock (.slice ao1 (n - 1) (cap - 1)) = G := by rw [← Hcut.out, ownBlock_cutFrom]; exact HG.out
          have hfr : Fr (fun j => j = b) W0 ((W0.drewN (q + 1)).setCell ⟨b, 2, none⟩ (.slice ao1 (n - 1) (cap - 1))) := ((Fr.refl (fun j => j = b) W0).drewN _).setCell (p := ⟨b, 2, none⟩) (fun _ => rfl) _
          have hlen : (xs.drop (k + 1)).length = n - 1 := by rw [List.length_drop, Hl.out]; omega
          refine ⟨hlt, rfl, by simp [show k < xs.length by omega], ⟨_, heap_setC (w := W0.drewN (q + 1)) _ Hb.out, ?_, hob, hne⟩, hfr⟩
          rw [hlen]
          rw [Nat.mul_one, ← List.map_drop, List.drop_drop] at hsl'
          exact hsl'.fr hfr (fun g' hg' e => hne (by rw [← hob, hg', e]))
        obtain ⟨fn, tmps, assign, body, hy, hR⟩ := hY k W0 _ (k + 1) _ hJk hst
        clear hst hx0 hc2 hf2 hsl hsl2 hc
        gi_wp2
        refine hR.mono ?_
        rintro e W3 (⟨rfl, hJ3⟩ | ⟨rfl, hJx3⟩)
        · gi_wp2
          go_roundw
          case rel => exact ⟨k + 1, W3, 0, by omega, by go_num, hJ3, rfl⟩
          case measure => simp [intOf]; omega
        · gi_wp2
          refine bodyPost_ret (results_none rfl _ _ _) rfl ?_
          exact ⟨⟨_, rfl⟩, .inr hJx3⟩
      · obtain rfl : k = xs.length := by omega
        gi_wp2
        go_end0
        exact ⟨⟨_, rfl⟩, .inl ⟨_, _, hJk, rfl, _, rfl⟩⟩
end Go.Proofs.Ytnchmnkiokofhaa
