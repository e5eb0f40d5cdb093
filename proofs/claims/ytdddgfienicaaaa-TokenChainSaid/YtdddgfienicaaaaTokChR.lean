/- TokenChain, walked. -/
import Derived.Test.YtdddgfienicaaaaTokOwnR
import Derived.Test.YtdddgfienicaaaaTokC
namespace Go.Proofs.Ytdddgfienicaaaa
open Go.RowKit Go.Shelf Go.XL
set_option linter.unusedVariables false
set_option linter.unusedSimpArgs false
attribute [local go_sem] Oper.semAt_some
/-- memory that does not change what is read: nothing is read of an empty slice -/
theorem Rd.put {F : Nat → Prop} {w w' : World} {size : Nat} {v : Value} {n : Nat} {xs : List Value} (h : Rd w size v n xs) (hf : Fr F w w') (hF : 0 < n → ∀ g, v.ownBlock = some g → ¬ F g) : Rd w' size v n xs := by
  obtain ⟨hl, ao, cap, rfl, hn, hm, hz, hc⟩ := h
  refine ⟨hl, ao, cap, rfl, hn, hm, hz, fun h0 => ?_⟩
  obtain ⟨g, off, rfl, hx⟩ := hc h0
  exact ⟨g, off, rfl, fun j u hj => hf.cell (hx j u hj) (fun e => hF h0 g rfl e)⟩
theorem mkDr_ch {s : Int} (h : s ≠ 0) : mkDr 1 s (.slice none 0 0) [] = chD s := by simp [mkDr, chD, h]
theorem chD_ok (w : World) (L : List Int) : ∀ d ∈ L.map chD, DrOk w d := fun d hd => by
  obtain ⟨q, _, rfl⟩ := List.mem_map.1 hd
  exact rd_zero _ _

set_option maxRecDepth 100000 in
set_option maxHeartbeats 4000000 in
theorem tokenChain_any (nn : Int) (hn0 : 0 ≤ nn) (hn1 : nn ≤ 255) (v : Value) (w : World) (zs : List Int) (h : Rd w 1 v zs.length (zs.map (Value.int .u8))) (hz : ∀ x ∈ zs, 0 ≤ x ∧ x ≤ 255) :
    Calls Try.prog 5 #[.int .u8 nn, v] w fun e w' => e = .returned (.bool true) ∧ Fr no w w' := by
  obtain ⟨vo, vc, rfl, hvc, hvm⟩ := h.cap
  have H := Lib.hid h
  have Hz := Lib.hid hz
  clear h hz
  generalize hn : zs.length = n at *
  have Hn := Lib.hid hn
  clear hn
  go_enter Try.func5, Try.ntmps5
  go_wp2_with fail
  refine (law_known w).mono ?_
  rintro e w1 ⟨rfl, hf1⟩
  have HF1 := Lib.hid hf1
  clear hf1
  go_upto_region 4 with (fail)
  obtain ⟨K, hK⟩ : ∃ K : Int, 1 + nn % 12 = K := ⟨_, rfl⟩
  have hK1 : 1 ≤ K ∧ K ≤ 12 := by omega
  rw [hK]
  generalize nn % 12 = nr at *
  clear hK
  by_cases h60 : 60 < n
  · go_wp2
    go_ret
    exact ⟨rfl, HF1.out⟩
  · obtain ⟨w2, hw2⟩ : ∃ w2, w1.alloc (.cells #[.int .i64 0, .int .i64 0, .slice none 0 0, .slice none 0 0] 26) = w2 := ⟨_, rfl⟩
    have hbt : w2.heap[w1.heap.size]? = some (.cells #[.int .i64 0, .int .i64 0, .slice none 0 0, .slice none 0 0] 26 (0, 0)) := by rw [← hw2]; exact World.alloc_heap_new _ _
    have hf2 : Fr no w w2 := by rw [← hw2]; exact HF1.out.alloc _
    have HB := Lib.hid hbt
    have HF2 := Lib.hid hf2
    have HW2 := Lib.hid hw2
    have hbw : w.heap.size ≤ w1.heap.size := HF1.out.size
    clear hbt hf2 hw2
    go_wp2_with fail
    rw [HW2.out]
    clear HW2 HF1
    generalize w1.heap.size = bt at *
    go_loopw [7, 8] (fun nv iv wr => ∃ (i : Nat) (x NX : Int) (L : List Int) (so : Option Addr) (sl sc : Nat) (lo : Option Addr) (ll lc : Nat), (i : Int) ≤ n + K ∧ iv = .int .i64 i ∧ nv = .int .i64 NX ∧ Hid (NX = x + 1) ∧ Hid (sl = (chS x).length) ∧ Hid (ll = L.length) ∧ Hid (wr.heap[bt]? = some (.cells #[.int .i64 0, .int .i64 x, .slice so sl sc, .slice lo ll lc] 26 (0, 0))) ∧
        Hid (RdX (fun g => g = bt) wr 1 (.slice so sl sc) sl ((chS x).map (Value.int .i64))) ∧ Hid (RdX (fun g => g = bt) wr 6 (.slice lo ll lc) ll (drCells (L.map chD))) ∧ Hid (CFed K x L i (i - n)) ∧ Hid (Fr no w wr)) (fun _ iv _ => (n + K - intOf iv).toNat)
    case atStart =>
      refine ⟨0, 0, 1, [], none, 0, 0, none, 0, 0, by omega, rfl, rfl, Lib.hid rfl, Lib.hid rfl, Lib.hid rfl, HB, Lib.hid ⟨rd_zero _ _, fun h => absurd h (Nat.lt_irrefl 0)⟩, Lib.hid ⟨rd_zero _ _, fun h => absurd h (Nat.lt_irrefl 0)⟩, Lib.hid ⟨Int.le_refl _, by omega, fun q h => by simp at h, by simp, Nat.le_refl _, fun j h1 h2 => by simp at h2; omega⟩, HF2⟩
    clear HB HF2
    case round =>
      obtain ⟨i, x, NX, L, so, sl, sc, lo, ll, lc, hi, rfl, rfl, hNX, hsl, hll, hB, hSe, hLt, hC, hF⟩ := hrel
      generalize wr = W at *
      by_cases hlt : (i : Int) < n + K
      · go_upto_if 39 with (fail)
        go_cut [9] from 23 to 83 (fun sv wx => ∃ S : Int, sv = .int .i64 S ∧ 1 ≤ S ∧ S ≤ K ∧ (i < n ∨ S = (i : Int) - n + 1) ∧ W = wx)
        case first =>
          by_cases hin : i < n
          · obtain ⟨z, hzi⟩ : ∃ z, zs[i]? = some z := ⟨zs[i]'(by rw [Hn.out]; exact hin), by simp⟩
            obtain ⟨g, off, c', he, _, _, hcell⟩ := Rd.form (H.out.fr hF.out (fun _ _ _ f => f)) (by omega)
            cases he
            have hc := hcell i (.int .u8 z) (by simp [hzi])
            have hzb := Hz.out z (List.mem_of_getElem? hzi)
            clear hcell hzi
            have hzk : 0 ≤ z % K ∧ z % K < K := ⟨Int.emod_nonneg _ (by omega), Int.emod_lt_of_pos _ (by omega)⟩
            have hzt : z.tmod K = z % K := Int.tmod_eq_emod_of_nonneg hzb.1
            obtain ⟨R, hR⟩ : ∃ R, z % K = R := ⟨_, rfl⟩
            rw [hR] at hzk hzt
            go_wp2
            go_meet
            exact ⟨1 + R, rfl, by omega, by omega, .inl hin, rfl⟩
          · go_wp2
            go_meet
            exact ⟨_, rfl, by omega, by omega, .inr rfl, rfl⟩
        case rest =>
          obtain ⟨S, rfl, hS1, hSK, hSi, rfl⟩ := hcut
          have hfeed := hC.out.feed S ⟨hS1, hSK⟩ (L.length + 1) (Nat.le_refl _) (i + 1 - n) (by omega)
          have hC0 := hC.out
          obtain ⟨c', hc1, hc2⟩ := ch_ago (L.length + 1) x (L ++ [S]) x 0 hC0.x0 (by simp)
          obtain ⟨X, hX⟩ : ∃ X, (cgo (L.length + 1) x (L ++ [S])).1 = X := ⟨_, rfl⟩
          obtain ⟨L1, hL1⟩ : ∃ L1, (cgo (L.length + 1) x (L ++ [S])).2 = L1 := ⟨_, rfl⟩
          obtain ⟨L2, hL2⟩ : ∃ L2, clate X L1 [] = L2 := ⟨_, rfl⟩
          rw [hX, hL1, hL2] at hfeed
          rw [hX] at hc1
          rw [hX, hL1] at hc2
          have hXb : 0 ≤ X ∧ X ≤ 12 := ⟨hfeed.x0, by have := hfeed.xk; omega⟩
          have hxb : 0 ≤ x ∧ x ≤ 12 := ⟨hC0.x0, by have := hC0.xk; omega⟩
          have hll2 := hC0.len
          obtain ⟨s2, hs2⟩ : ∃ s2, (chS X).length = s2 := ⟨_, rfl⟩
          obtain ⟨l2, hl2⟩ : ∃ l2, L2.length = l2 := ⟨_, rfl⟩
          have hHA : ∀ (wc : World) (gd : Nat), Fr no W wc → wc.heap[gd]? = some (.cells #[.int .i64 0, .int .i64 1, .int .i64 S, .slice none 0 0, .string ⟨#[107]⟩, .string ⟨#[]⟩] 41 (0, 0)) → Calls Try.prog 17 #[.agg #[.int .i64 0, .int .i64 x, .slice so sl sc, .slice lo ll lc], .slice (some ⟨gd, 0, none⟩) 1 1] wc fun e w' => ∃ sv' tv' ov', e = .returned (.tuple #[.agg #[.int .i64 0, .int .i64 X, sv', tv'], ov']) ∧
              RdX (fun g => g = bt) w' 1 sv' s2 ((chS X).map (Value.int .i64)) ∧ RdX (fun g => g = bt) w' 6 tv' l2 (drCells (L2.map chD)) ∧ Rd w' 7 ov' c' (slCells (chOut c' x)) ∧ Fr no wc w' := fun wc gd hf hg => by
            have hq : ∀ d ∈ L.map chD ++ [chD S], 0 ≤ d.q ∧ d.q ≤ 1048576 := fun d hd => by
              rcases List.mem_append.1 hd with hd | hd
              · obtain ⟨q, hq, rfl⟩ := List.mem_map.1 hd
                have := hC0.mem q hq
                simp [chD]; omega
              · simp at hd; subst hd; simp [chD]; omega
            have hbl : bt < wc.heap.size := Nat.lt_of_lt_of_le (Array.getElem?_eq_some_iff.1 hB.out).1 hf.size
            have h := tAdmit 0 x (.slice so sl sc) (.slice lo ll lc) (.slice (some ⟨gd, 0, none⟩) 1 1) (chS x) (L.map chD) [chD S] wc (by show Rd wc 1 _ (chS x).length _; rw [← hsl.out]; exact Rd.fr hSe.out.rd hf (fun _ _ _ f => f)) (chS_ok x ⟨hxb.1, by omega⟩)
              (by show Rd wc 6 _ (L.map chD).length _; rw [List.length_map, ← hll.out]; exact Rd.fr hLt.out.rd hf (fun _ _ _ f => f)) (rd_blk hg) (fun d hd => by
                rw [← List.map_singleton (f := chD), ← List.map_append] at hd; exact chD_ok wc _ d hd) hq (by simp; omega) (by have := chS_len x; omega) hxb.1 (by omega)
            have e1 : (L.map chD).length + [chD S].length = L.length + 1 := by simp
            have e2 : L.map chD ++ [chD S] = (L ++ [S]).map chD := by simp
            have e3 : ([] : List (Int × Dr)) = chOut 0 x := rfl
            rw [e1, e2, e3, hc2] at h
            refine h.mono ?_
            rintro e w' ⟨sv', tv', ov', rfl, hR⟩
            refine ⟨sv', tv', ov', rfl, ⟨by rw [← hs2]; exact hR.seen, fun h0 g hg e => ?_⟩, ⟨?_, fun h0 g hg e => ?_⟩, ?_, hR.fr⟩
            · subst e
              rcases hR.svo with h9 | h9
              · rw [h9] at hg
                have hsl1 := hsl.out
                by_cases h00 : sl = 0
                · obtain ⟨_, _, hcv, _, _⟩ := hR.seen.cap
                  rw [h9, hs2] at hcv
                  injection hcv with _ hcv _
                  omega
                · exact hSe.out.2 (by omega) _ hg rfl
              · have := h9 _ hg; omega
            · have := hR.late
              have e4 := ch_late X hXb.1 L1 []
              rw [hL2] at e4
              have e5 : DrsAt w' tv' (alate 0 (chS X) (L1.map chD) []) := this
              have e6 : alate 0 (chS X) (L1.map chD) [] = L2.map chD := e4
              rw [e6] at e5
              have e7 : Rd w' 6 tv' (L2.map chD).length (drCells (L2.map chD)) := e5
              rw [List.length_map, hl2] at e7
              exact e7
            · have := hR.tvo g hg; omega
            · have := hR.out
              rw [chOut_len] at this
              exact this
          have HA := Lib.hid hHA
          have Hfeed := Lib.hid hfeed
          have Hs2 := Lib.hid hs2
          have Hl2 := Lib.hid hl2
          have Hc1 := Lib.hid hc1
          clear hHA hfeed hs2 hl2 hc1 hc2 hC0 hX hL1 hL2 hll2
          go_upto_region 14 with (fail)
          go_cut [10, 11] from 23 to 83 (fun pv lv wx => ∃ (gu : Nat) (so2 : Option Addr) (sc2 : Nat) (lo2 : Option Addr) (lc2 : Nat) (oo2 : Option Addr) (oc2 : Nat), pv = .pointer (some ⟨gu, 0, none⟩) ∧ lv = .slice oo2 c' oc2 ∧ c' ≤ oc2 ∧ oc2 ≤ 9223372036854775807 ∧ gu ≠ bt ∧
            Hid (wx.heap[bt]? = some (.cells #[.int .i64 0, .int .i64 x, .slice so sl sc, .slice lo ll lc] 26 (0, 0))) ∧ Hid (wx.heap[gu]? = some (.cells #[.int .i64 0, .int .i64 X, .slice so2 s2 sc2, .slice lo2 l2 lc2] 26 (0, 0))) ∧
            Hid (RdX (fun g => g = bt) wx 1 (.slice so2 s2 sc2) s2 ((chS X).map (Value.int .i64))) ∧ Hid (RdX (fun g => g = bt) wx 6 (.slice lo2 l2 lc2) l2 (drCells (L2.map chD))) ∧ Hid (Rd wx 7 (.slice oo2 c' oc2) c' (slCells (chOut c' x))) ∧ Hid (Fr no w wx))
          case first =>
            obtain ⟨Sg157_0, HSg157_0⟩ : ∃ S : World → Prop, Hid (S = (fun w' => w'.cell? ⟨bt, 0, none⟩ = some (.int .i64 0) ∧ w'.cell? ⟨bt, 1, none⟩ = some (.int .i64 x) ∧ w'.cell? ⟨bt, 2, none⟩ = some (.slice so sl sc) ∧ w'.cell? ⟨bt, 3, none⟩ = some (.slice lo ll lc))) := ⟨_, Lib.hid rfl⟩
            obtain ⟨Sg157_1, HSg157_1⟩ : ∃ S : World → Prop, Hid (S = (fun _ => True)) := ⟨_, Lib.hid rfl⟩
            refine wp_heldp [9] (pickS [Sg157_0, Sg157_1]) (by kernel_rfl) ?_ (fun hHeld => ?_)
            · show Sg157_0 _; rw [HSg157_0.out]; have hb : W.drew.heap[bt]? = _ := hB.out; exact ⟨cell_of_block hb rfl, cell_of_block hb rfl, cell_of_block hb rfl, cell_of_block hb rfl⟩
            obtain ⟨wc, hwc⟩ : ∃ x, W.drew = x := ⟨_, rfl⟩; rw [hwc] at hHeld; rw [hwc]; have HF : Hid (Fr no W wc) := (by rw [← hwc]; exact Lib.hid ((Fr.refl no W).drewN 1)); clear hwc
            refine heldp_take (v := ?_) 0 0 rfl (by kernel_rfl) (.inl ⟨by rfl, ?_⟩) hHeld ?_
            rotate_left
            · intro w hSw; replace hSw : Sg157_0 w := hSw; rw [HSg157_0.out] at hSw; (try dsimp only at hSw); first | (go_simp; done) | (go_simp; with_reducible rfl)
            try simp only [Act.put, List.setIfInBounds_toArray, List.set_cons_zero, List.set_cons_succ]
            refine heldp_take (v := ?_) 1 0 rfl (by kernel_rfl) (.inl ⟨by rfl, ?_⟩) hHeld ?_
            rotate_left
            · intro w hSw; replace hSw : Sg157_0 w := hSw; rw [HSg157_0.out] at hSw; (try dsimp only at hSw); first | (go_simp; done) | (go_simp; with_reducible rfl)
            try simp only [Act.put, List.setIfInBounds_toArray, List.set_cons_zero, List.set_cons_succ]
            refine heldp_two 2 8 (by kernel_rfl) ?_ ?_
            · refine heldp_op 2 0 rfl (by kernel_rfl) (fun K hK => ?_)
              go_simp
              go_at_call 26
              refine (show Calls _ _ _ _ (fun e w' => e = .returned (.agg #[.int .i64 0, .int .i64 1, .int .i64 S, .slice none 0 0, .string ⟨#[107]⟩, .string ⟨#[]⟩]) ∧ Fr no wc w') from (by have h := law_D 1 S none 0 0 [] wc; rw [mkDr_ch (by omega)] at h; exact h)).mono ?_
              rintro e wc ⟨rfl, hfd⟩
              replace HF := Lib.hid (HF.out.trans' hfd)
              try replace V := Lib.hid (hfd.heap V.out (fun f => f))
              clear hfd
              refine hK.out _ _ ?_ (fun hHeld' => ?_)
              · show Sg157_0 _; rw [HSg157_0.out]; have hb := HF.out.heap hB.out (fun f => f); exact ⟨cell_of_block hb rfl, cell_of_block hb rfl, cell_of_block hb rfl, cell_of_block hb rfl⟩
              clear hK K hHeld
              have hHeld := hHeld'
              clear hHeld'
              try simp only [Act.put, List.setIfInBounds_toArray, List.set_cons_zero, List.set_cons_succ]
              refine heldp_two 3 8 (by kernel_rfl) ?_ ?_
              · refine heldp_op 3 0 rfl (by kernel_rfl) (fun K hK => ?_)
                go_simp
                have hfa : Fr no wc (wc.alloc (.cells #[.int .i64 0, .int .i64 1, .int .i64 S, .slice none 0 0, .string ⟨#[107]⟩, .string ⟨#[]⟩] 41)) := (Fr.refl no wc).alloc _
                have hba := World.alloc_heap_new wc (.cells #[.int .i64 0, .int .i64 1, .int .i64 S, .slice none 0 0, .string ⟨#[107]⟩, .string ⟨#[]⟩] 41)
                obtain ⟨gd, hgd⟩ : ∃ x, wc.heap.size = x := ⟨_, rfl⟩
                obtain ⟨wc, hwc⟩ : ∃ x, wc.alloc (.cells #[.int .i64 0, .int .i64 1, .int .i64 S, .slice none 0 0, .string ⟨#[107]⟩, .string ⟨#[]⟩] 41) = x := ⟨_, rfl⟩
                rw [hgd, hwc]
                rw [hgd, hwc] at hba
                rw [hwc] at hfa
                replace HF := Lib.hid (HF.out.trans' hfa)
                try replace V := Lib.hid (hfa.heap V.out (fun f => f))
                have D := Lib.hid hba
                clear hba hfa hwc hgd
                refine hK.out _ _ ?_ (fun hHeld' => ?_)
                · show Sg157_0 _; rw [HSg157_0.out]; have hb := HF.out.heap hB.out (fun f => f); exact ⟨cell_of_block hb rfl, cell_of_block hb rfl, cell_of_block hb rfl, cell_of_block hb rfl⟩
                clear hK K hHeld
                have hHeld := hHeld'
                clear hHeld'
                try simp only [Act.put, List.setIfInBounds_toArray, List.set_cons_zero, List.set_cons_succ]
                refine heldp_two 4 8 (by kernel_rfl) ?_ ?_
                · refine heldp_op 4 0 rfl (by kernel_rfl) (fun K hK => ?_)
                  go_simp
                  go_at_call 17
                  refine (HA.out wc gd HF.out D.out).mono ?_
                  rintro e wc ⟨sv', tv', ov', rfl, hse, hlt', hov, hfd⟩
                  obtain ⟨so2, sc2, rfl, _, _⟩ := hse.rd.cap
                  obtain ⟨lo2, lc2, rfl, _, _⟩ := hlt'.rd.cap
                  obtain ⟨oo2, oc2, rfl, hoc1, hoc2⟩ := hov.cap
                  have Hse := Lib.hid hse
                  have Hlt := Lib.hid hlt'
                  have Hov := Lib.hid hov
                  replace HF := Lib.hid (HF.out.trans' hfd)
                  try replace V := Lib.hid (hfd.heap V.out (fun f => f))
                  clear hfd hov hse hlt' D
                  refine hK.out _ _ ?_ (fun hHeld' => ?_)
                  · show Sg157_0 _; rw [HSg157_0.out]; have hb := HF.out.heap hB.out (fun f => f); exact ⟨cell_of_block hb rfl, cell_of_block hb rfl, cell_of_block hb rfl, cell_of_block hb rfl⟩
                  clear hK K hHeld
                  have hHeld := hHeld'
                  clear hHeld'
                  try simp only [Act.put, List.setIfInBounds_toArray, List.set_cons_zero, List.set_cons_succ]
                  refine heldp_take (v := ?_) 5 0 rfl (by kernel_rfl) (.inl ⟨by rfl, ?_⟩) hHeld ?_
                  rotate_left
                  · intro w hSw; replace hSw : Sg157_0 w := hSw; rw [HSg157_0.out] at hSw; (try dsimp only at hSw); first | (go_simp; done) | (go_simp; with_reducible rfl)
                  try simp only [Act.put, List.setIfInBounds_toArray, List.set_cons_zero, List.set_cons_succ]
                  refine heldp_take (v := ?_) 6 0 rfl (by kernel_rfl) (.inl ⟨by rfl, ?_⟩) hHeld ?_
                  rotate_left
                  · intro w hSw; replace hSw : Sg157_0 w := hSw; rw [HSg157_0.out] at hSw; (try dsimp only at hSw); first | (go_simp; done) | (go_simp; with_reducible rfl)
                  try simp only [Act.put, List.setIfInBounds_toArray, List.set_cons_zero, List.set_cons_succ]
                  refine heldp_free (v := ?_) 7 0 rfl (by kernel_rfl) (.inl ⟨by rfl, ?_⟩) hHeld ?_
                  rotate_left
                  · intro w hSw; clear hSw; first | (go_simp; done) | (go_simp; with_reducible rfl)
                  try simp only [Act.put, List.setIfInBounds_toArray, List.set_cons_zero, List.set_cons_succ]
                  refine heldp_call 8 0 rfl (by kernel_rfl) (fun K hK => ?_)
                  go_simp
                  have hfa : Fr no wc (wc.alloc (.cells #[.int .i64 0, .int .i64 0, .slice none 0 0, .slice none 0 0] 26)) := (Fr.refl no wc).alloc _
                  have hba := World.alloc_heap_new wc (.cells #[.int .i64 0, .int .i64 0, .slice none 0 0, .slice none 0 0] 26)
                  obtain ⟨gv, hgv⟩ : ∃ x, wc.heap.size = x := ⟨_, rfl⟩
                  have hgw : W.heap.size ≤ gv := by rw [← hgv]; exact HF.out.size
                  obtain ⟨wc, hwc⟩ : ∃ x, wc.alloc (.cells #[.int .i64 0, .int .i64 0, .slice none 0 0, .slice none 0 0] 26) = x := ⟨_, rfl⟩
                  rw [hgv, hwc]
                  rw [hgv, hwc] at hba
                  rw [hwc] at hfa
                  replace HF := Lib.hid (HF.out.trans' hfa)
                  try replace D := Lib.hid (hfa.heap D.out (fun f => f))
                  try replace Hov := Lib.hid (Hov.out.fr hfa (fun _ _ _ f => f))
                  try replace Hse := Lib.hid (Hse.out.fr0' hfa)
                  try replace Hlt := Lib.hid (Hlt.out.fr0' hfa)
                  have V := Lib.hid hba
                  clear hba hfa hwc hgv
                  refine hK.out _ _ ?_ (fun hHeld' => ?_)
                  · show Sg157_0 _; rw [HSg157_0.out]; have hb := HF.out.heap hB.out (fun f => f); exact ⟨cell_of_block hb rfl, cell_of_block hb rfl, cell_of_block hb rfl, cell_of_block hb rfl⟩
                  clear hK K hHeld
                  have hHeld := hHeld'
                  clear hHeld'
                  try simp only [Act.put, List.setIfInBounds_toArray, List.set_cons_zero, List.set_cons_succ]
                  refine heldp_call 9 1 rfl (by kernel_rfl) (fun K hK => ?_)
                  rw [if_pos (by rfl)]
                  obtain ⟨x1, x2, x3, x4, q1, q2, q3, q4, c1, c2, c3, c4, z1, z2, z3, z4, hb4, hf4⟩ := set4 V.out (.int .i64 0) (.int .i64 X) (.slice so2 s2 sc2) (.slice lo2 l2 lc2)
                  have T2 := Lib.hid hb4
                  have hbl : bt < W.heap.size := (Array.getElem?_eq_some_iff.1 hB.out).1
                  have hgb : gv ≠ bt := by omega
                  have Hse3 : Hid (RdX (fun g => g = bt) x4 1 (.slice so2 s2 sc2) s2 ((chS X).map (Value.int .i64))) := Lib.hid ⟨Rd.put Hse.out.rd hf4 (fun h0 => rd_ne (j := 1) Hse.out.rd h0 V.out (u := .int .i64 X) (by rw [← Hs2.out] at h0; unfold chS at h0 ⊢; split at h0; simp at h0; rename_i hx; rw [if_neg hx]; rfl) (fun off => by rcases off with _ | _ | _ | off <;> simp; (try (rw [← Hs2.out] at h0; unfold chS at h0; split at h0; simp at h0; rename_i hx; exact fun e => hx e.symm)))), Hse.out.2⟩
                  have Hlt3 : Hid (RdX (fun g => g = bt) x4 6 (.slice lo2 l2 lc2) l2 (drCells (L2.map chD))) := Lib.hid ⟨Rd.put Hlt.out.rd hf4 (fun h0 => rd_ne (j := 5) Hlt.out.rd h0 V.out (u := .string ⟨#[]⟩) (by rw [← Hl2.out] at h0; cases L2 with | nil => simp at h0 | cons q r => rfl) (fun off => by simp)), Hlt.out.2⟩
                  have Hov3 : Hid (Rd x4 7 (.slice oo2 c' oc2) c' (slCells (chOut c' x))) := Lib.hid (Rd.put Hov.out hf4 (fun h0 => rd_ne (j := 6) Hov.out h0 V.out (u := .string ⟨#[]⟩) (by cases c' with | zero => omega | succ n => rfl) (fun off => by simp)))
                  have HG : Hid (Fr no w x4) := Lib.hid ((hF.out.trans' HF.out).trans hf4 (fun i hi e => by have := hF.out.size; omega))
                  have B3 := Lib.hid (hf4.heap (HF.out.heap hB.out (fun f => f)) (fun e => hgb e.symm))
                  clear hb4 hf4
                  go_simp
                  refine hK.out _ _ ?_ (fun hHeld' => ?_)
                  · show Sg157_1 _; rw [HSg157_1.out]; trivial
                  clear hK K hHeld
                  have hHeld := hHeld'
                  clear hHeld'
                  try simp only [Act.put, List.setIfInBounds_toArray, List.set_cons_zero, List.set_cons_succ]
                  refine heldp_take (v := ?_) 10 1 rfl (by kernel_rfl) (.inl ⟨by rfl, ?_⟩) hHeld ?_
                  rotate_left
                  · intro w hSw; replace hSw : Sg157_1 w := hSw; rw [HSg157_1.out] at hSw; (try dsimp only at hSw); first | (go_simp; done) | (go_simp; with_reducible rfl)
                  try simp only [Act.put, List.setIfInBounds_toArray, List.set_cons_zero, List.set_cons_succ]
                  refine heldp_done (by kernel_rfl) ?_
                  try clear hHeld
                  clear HSg157_0
                  try clear Sg157_0
                  clear HSg157_1
                  try clear Sg157_1
                  clear q1 q2 q3 q4 c1 c2 c3 c4 z1 z2 z3 z4
                  go_wp2
                  go_meet
                  exact ⟨gv, so2, sc2, lo2, lc2, oo2, oc2, rfl, rfl, hoc1, hoc2, hgb, B3, T2, Hse3, Hlt3, Hov3, HG⟩
                · refine heldp_op 8 0 rfl (by kernel_rfl) (fun K hK => ?_)
                  go_simp
                  have hfa : Fr no wc (wc.alloc (.cells #[.int .i64 0, .int .i64 0, .slice none 0 0, .slice none 0 0] 26)) := (Fr.refl no wc).alloc _
                  have hba := World.alloc_heap_new wc (.cells #[.int .i64 0, .int .i64 0, .slice none 0 0, .slice none 0 0] 26)
                  obtain ⟨gv, hgv⟩ : ∃ x, wc.heap.size = x := ⟨_, rfl⟩
                  have hgw : W.heap.size ≤ gv := by rw [← hgv]; exact HF.out.size
                  obtain ⟨wc, hwc⟩ : ∃ x, wc.alloc (.cells #[.int .i64 0, .int .i64 0, .slice none 0 0, .slice none 0 0] 26) = x := ⟨_, rfl⟩
                  rw [hgv, hwc]
                  rw [hgv, hwc] at hba
                  rw [hwc] at hfa
                  replace HF := Lib.hid (HF.out.trans' hfa)
                  try replace D := Lib.hid (hfa.heap D.out (fun f => f))
                  try replace Hov := Lib.hid (Hov.out.fr hfa (fun _ _ _ f => f))
                  try replace Hse := Lib.hid (Hse.out.fr0' hfa)
                  try replace Hlt := Lib.hid (Hlt.out.fr0' hfa)
                  have V := Lib.hid hba
                  clear hba hfa hwc hgv
                  refine hK.out _ _ ?_ (fun hHeld' => ?_)
                  · show Sg157_0 _; rw [HSg157_0.out]; have hb := HF.out.heap hB.out (fun f => f); exact ⟨cell_of_block hb rfl, cell_of_block hb rfl, cell_of_block hb rfl, cell_of_block hb rfl⟩
                  clear hK K hHeld
                  have hHeld := hHeld'
                  clear hHeld'
                  try simp only [Act.put, List.setIfInBounds_toArray, List.set_cons_zero, List.set_cons_succ]
                  refine heldp_call 4 0 rfl (by kernel_rfl) (fun K hK => ?_)
                  go_simp
                  go_at_call 17
                  refine (HA.out wc gd HF.out D.out).mono ?_
                  rintro e wc ⟨sv', tv', ov', rfl, hse, hlt', hov, hfd⟩
                  obtain ⟨so2, sc2, rfl, _, _⟩ := hse.rd.cap
                  obtain ⟨lo2, lc2, rfl, _, _⟩ := hlt'.rd.cap
                  obtain ⟨oo2, oc2, rfl, hoc1, hoc2⟩ := hov.cap
                  have Hse := Lib.hid hse
                  have Hlt := Lib.hid hlt'
                  have Hov := Lib.hid hov
                  replace HF := Lib.hid (HF.out.trans' hfd)
                  try replace V := Lib.hid (hfd.heap V.out (fun f => f))
                  clear hfd hov hse hlt' D
                  refine hK.out _ _ ?_ (fun hHeld' => ?_)
                  · show Sg157_0 _; rw [HSg157_0.out]; have hb := HF.out.heap hB.out (fun f => f); exact ⟨cell_of_block hb rfl, cell_of_block hb rfl, cell_of_block hb rfl, cell_of_block hb rfl⟩
                  clear hK K hHeld
                  have hHeld := hHeld'
                  clear hHeld'
                  try simp only [Act.put, List.setIfInBounds_toArray, List.set_cons_zero, List.set_cons_succ]
                  refine heldp_take (v := ?_) 5 0 rfl (by kernel_rfl) (.inl ⟨by rfl, ?_⟩) hHeld ?_
                  rotate_left
                  · intro w hSw; replace hSw : Sg157_0 w := hSw; rw [HSg157_0.out] at hSw; (try dsimp only at hSw); first | (go_simp; done) | (go_simp; with_reducible rfl)
                  try simp only [Act.put, List.setIfInBounds_toArray, List.set_cons_zero, List.set_cons_succ]
                  refine heldp_take (v := ?_) 6 0 rfl (by kernel_rfl) (.inl ⟨by rfl, ?_⟩) hHeld ?_
                  rotate_left
                  · intro w hSw; replace hSw : Sg157_0 w := hSw; rw [HSg157_0.out] at hSw; (try dsimp only at hSw); first | (go_simp; done) | (go_simp; with_reducible rfl)
                  try simp only [Act.put, List.setIfInBounds_toArray, List.set_cons_zero, List.set_cons_succ]
                  refine heldp_free (v := ?_) 7 0 rfl (by kernel_rfl) (.inl ⟨by rfl, ?_⟩) hHeld ?_
                  rotate_left
                  · intro w hSw; clear hSw; first | (go_simp; done) | (go_simp; with_reducible rfl)
                  try simp only [Act.put, List.setIfInBounds_toArray, List.set_cons_zero, List.set_cons_succ]
                  refine heldp_call 9 1 rfl (by kernel_rfl) (fun K hK => ?_)
                  rw [if_pos (by rfl)]
                  obtain ⟨x1, x2, x3, x4, q1, q2, q3, q4, c1, c2, c3, c4, z1, z2, z3, z4, hb4, hf4⟩ := set4 V.out (.int .i64 0) (.int .i64 X) (.slice so2 s2 sc2) (.slice lo2 l2 lc2)
                  have T2 := Lib.hid hb4
                  have hbl : bt < W.heap.size := (Array.getElem?_eq_some_iff.1 hB.out).1
                  have hgb : gv ≠ bt := by omega
                  have Hse3 : Hid (RdX (fun g => g = bt) x4 1 (.slice so2 s2 sc2) s2 ((chS X).map (Value.int .i64))) := Lib.hid ⟨Rd.put Hse.out.rd hf4 (fun h0 => rd_ne (j := 1) Hse.out.rd h0 V.out (u := .int .i64 X) (by rw [← Hs2.out] at h0; unfold chS at h0 ⊢; split at h0; simp at h0; rename_i hx; rw [if_neg hx]; rfl) (fun off => by rcases off with _ | _ | _ | off <;> simp; (try (rw [← Hs2.out] at h0; unfold chS at h0; split at h0; simp at h0; rename_i hx; exact fun e => hx e.symm)))), Hse.out.2⟩
                  have Hlt3 : Hid (RdX (fun g => g = bt) x4 6 (.slice lo2 l2 lc2) l2 (drCells (L2.map chD))) := Lib.hid ⟨Rd.put Hlt.out.rd hf4 (fun h0 => rd_ne (j := 5) Hlt.out.rd h0 V.out (u := .string ⟨#[]⟩) (by rw [← Hl2.out] at h0; cases L2 with | nil => simp at h0 | cons q r => rfl) (fun off => by simp)), Hlt.out.2⟩
                  have Hov3 : Hid (Rd x4 7 (.slice oo2 c' oc2) c' (slCells (chOut c' x))) := Lib.hid (Rd.put Hov.out hf4 (fun h0 => rd_ne (j := 6) Hov.out h0 V.out (u := .string ⟨#[]⟩) (by cases c' with | zero => omega | succ n => rfl) (fun off => by simp)))
                  have HG : Hid (Fr no w x4) := Lib.hid ((hF.out.trans' HF.out).trans hf4 (fun i hi e => by have := hF.out.size; omega))
                  have B3 := Lib.hid (hf4.heap (HF.out.heap hB.out (fun f => f)) (fun e => hgb e.symm))
                  clear hb4 hf4
                  go_simp
                  refine hK.out _ _ ?_ (fun hHeld' => ?_)
                  · show Sg157_1 _; rw [HSg157_1.out]; trivial
                  clear hK K hHeld
                  have hHeld := hHeld'
                  clear hHeld'
                  try simp only [Act.put, List.setIfInBounds_toArray, List.set_cons_zero, List.set_cons_succ]
                  refine heldp_take (v := ?_) 10 1 rfl (by kernel_rfl) (.inl ⟨by rfl, ?_⟩) hHeld ?_
                  rotate_left
                  · intro w hSw; replace hSw : Sg157_1 w := hSw; rw [HSg157_1.out] at hSw; (try dsimp only at hSw); first | (go_simp; done) | (go_simp; with_reducible rfl)
                  try simp only [Act.put, List.setIfInBounds_toArray, List.set_cons_zero, List.set_cons_succ]
                  refine heldp_done (by kernel_rfl) ?_
                  try clear hHeld
                  clear HSg157_0
                  try clear Sg157_0
                  clear HSg157_1
                  try clear Sg157_1
                  clear q1 q2 q3 q4 c1 c2 c3 c4 z1 z2 z3 z4
                  go_wp2
                  go_meet
                  exact ⟨gv, so2, sc2, lo2, lc2, oo2, oc2, rfl, rfl, hoc1, hoc2, hgb, B3, T2, Hse3, Hlt3, Hov3, HG⟩
              · refine heldp_op 8 0 rfl (by kernel_rfl) (fun K hK => ?_)
                go_simp
                have hfa : Fr no wc (wc.alloc (.cells #[.int .i64 0, .int .i64 0, .slice none 0 0, .slice none 0 0] 26)) := (Fr.refl no wc).alloc _
                have hba := World.alloc_heap_new wc (.cells #[.int .i64 0, .int .i64 0, .slice none 0 0, .slice none 0 0] 26)
                obtain ⟨gv, hgv⟩ : ∃ x, wc.heap.size = x := ⟨_, rfl⟩
                have hgw : W.heap.size ≤ gv := by rw [← hgv]; exact HF.out.size
                obtain ⟨wc, hwc⟩ : ∃ x, wc.alloc (.cells #[.int .i64 0, .int .i64 0, .slice none 0 0, .slice none 0 0] 26) = x := ⟨_, rfl⟩
                rw [hgv, hwc]
                rw [hgv, hwc] at hba
                rw [hwc] at hfa
                replace HF := Lib.hid (HF.out.trans' hfa)
                try replace D := Lib.hid (hfa.heap D.out (fun f => f))
                try replace Hov := Lib.hid (Hov.out.fr hfa (fun _ _ _ f => f))
                try replace Hse := Lib.hid (Hse.out.fr0' hfa)
                try replace Hlt := Lib.hid (Hlt.out.fr0' hfa)
                have V := Lib.hid hba
                clear hba hfa hwc hgv
                refine hK.out _ _ ?_ (fun hHeld' => ?_)
                · show Sg157_0 _; rw [HSg157_0.out]; have hb := HF.out.heap hB.out (fun f => f); exact ⟨cell_of_block hb rfl, cell_of_block hb rfl, cell_of_block hb rfl, cell_of_block hb rfl⟩
                clear hK K hHeld
                have hHeld := hHeld'
                clear hHeld'
                try simp only [Act.put, List.setIfInBounds_toArray, List.set_cons_zero, List.set_cons_succ]
                refine heldp_call 3 0 rfl (by kernel_rfl) (fun K hK => ?_)
                go_simp
                have hfa : Fr no wc (wc.alloc (.cells #[.int .i64 0, .int .i64 1, .int .i64 S, .slice none 0 0, .string ⟨#[107]⟩, .string ⟨#[]⟩] 41)) := (Fr.refl no wc).alloc _
                have hba := World.alloc_heap_new wc (.cells #[.int .i64 0, .int .i64 1, .int .i64 S, .slice none 0 0, .string ⟨#[107]⟩, .string ⟨#[]⟩] 41)
                obtain ⟨gd, hgd⟩ : ∃ x, wc.heap.size = x := ⟨_, rfl⟩
                obtain ⟨wc, hwc⟩ : ∃ x, wc.alloc (.cells #[.int .i64 0, .int .i64 1, .int .i64 S, .slice none 0 0, .string ⟨#[107]⟩, .string ⟨#[]⟩] 41) = x := ⟨_, rfl⟩
                rw [hgd, hwc]
                rw [hgd, hwc] at hba
                rw [hwc] at hfa
                replace HF := Lib.hid (HF.out.trans' hfa)
                try replace V := Lib.hid (hfa.heap V.out (fun f => f))
                have D := Lib.hid hba
                clear hba hfa hwc hgd
                refine hK.out _ _ ?_ (fun hHeld' => ?_)
                · show Sg157_0 _; rw [HSg157_0.out]; have hb := HF.out.heap hB.out (fun f => f); exact ⟨cell_of_block hb rfl, cell_of_block hb rfl, cell_of_block hb rfl, cell_of_block hb rfl⟩
                clear hK K hHeld
                have hHeld := hHeld'
                clear hHeld'
                try simp only [Act.put, List.setIfInBounds_toArray, List.set_cons_zero, List.set_cons_succ]
                refine heldp_call 4 0 rfl (by kernel_rfl) (fun K hK => ?_)
                go_simp
                go_at_call 17
                refine (HA.out wc gd HF.out D.out).mono ?_
                rintro e wc ⟨sv', tv', ov', rfl, hse, hlt', hov, hfd⟩
                obtain ⟨so2, sc2, rfl, _, _⟩ := hse.rd.cap
                obtain ⟨lo2, lc2, rfl, _, _⟩ := hlt'.rd.cap
                obtain ⟨oo2, oc2, rfl, hoc1, hoc2⟩ := hov.cap
                have Hse := Lib.hid hse
                have Hlt := Lib.hid hlt'
                have Hov := Lib.hid hov
                replace HF := Lib.hid (HF.out.trans' hfd)
                try replace V := Lib.hid (hfd.heap V.out (fun f => f))
                clear hfd hov hse hlt' D
                refine hK.out _ _ ?_ (fun hHeld' => ?_)
                · show Sg157_0 _; rw [HSg157_0.out]; have hb := HF.out.heap hB.out (fun f => f); exact ⟨cell_of_block hb rfl, cell_of_block hb rfl, cell_of_block hb rfl, cell_of_block hb rfl⟩
                clear hK K hHeld
                have hHeld := hHeld'
                clear hHeld'
                try simp only [Act.put, List.setIfInBounds_toArray, List.set_cons_zero, List.set_cons_succ]
                refine heldp_take (v := ?_) 5 0 rfl (by kernel_rfl) (.inl ⟨by rfl, ?_⟩) hHeld ?_
                rotate_left
                · intro w hSw; replace hSw : Sg157_0 w := hSw; rw [HSg157_0.out] at hSw; (try dsimp only at hSw); first | (go_simp; done) | (go_simp; with_reducible rfl)
                try simp only [Act.put, List.setIfInBounds_toArray, List.set_cons_zero, List.set_cons_succ]
                refine heldp_take (v := ?_) 6 0 rfl (by kernel_rfl) (.inl ⟨by rfl, ?_⟩) hHeld ?_
                rotate_left
                · intro w hSw; replace hSw : Sg157_0 w := hSw; rw [HSg157_0.out] at hSw; (try dsimp only at hSw); first | (go_simp; done) | (go_simp; with_reducible rfl)
                try simp only [Act.put, List.setIfInBounds_toArray, List.set_cons_zero, List.set_cons_succ]
                refine heldp_free (v := ?_) 7 0 rfl (by kernel_rfl) (.inl ⟨by rfl, ?_⟩) hHeld ?_
                rotate_left
                · intro w hSw; clear hSw; first | (go_simp; done) | (go_simp; with_reducible rfl)
                try simp only [Act.put, List.setIfInBounds_toArray, List.set_cons_zero, List.set_cons_succ]
                refine heldp_call 9 1 rfl (by kernel_rfl) (fun K hK => ?_)
                rw [if_pos (by rfl)]
                obtain ⟨x1, x2, x3, x4, q1, q2, q3, q4, c1, c2, c3, c4, z1, z2, z3, z4, hb4, hf4⟩ := set4 V.out (.int .i64 0) (.int .i64 X) (.slice so2 s2 sc2) (.slice lo2 l2 lc2)
                have T2 := Lib.hid hb4
                have hbl : bt < W.heap.size := (Array.getElem?_eq_some_iff.1 hB.out).1
                have hgb : gv ≠ bt := by omega
                have Hse3 : Hid (RdX (fun g => g = bt) x4 1 (.slice so2 s2 sc2) s2 ((chS X).map (Value.int .i64))) := Lib.hid ⟨Rd.put Hse.out.rd hf4 (fun h0 => rd_ne (j := 1) Hse.out.rd h0 V.out (u := .int .i64 X) (by rw [← Hs2.out] at h0; unfold chS at h0 ⊢; split at h0; simp at h0; rename_i hx; rw [if_neg hx]; rfl) (fun off => by rcases off with _ | _ | _ | off <;> simp; (try (rw [← Hs2.out] at h0; unfold chS at h0; split at h0; simp at h0; rename_i hx; exact fun e => hx e.symm)))), Hse.out.2⟩
                have Hlt3 : Hid (RdX (fun g => g = bt) x4 6 (.slice lo2 l2 lc2) l2 (drCells (L2.map chD))) := Lib.hid ⟨Rd.put Hlt.out.rd hf4 (fun h0 => rd_ne (j := 5) Hlt.out.rd h0 V.out (u := .string ⟨#[]⟩) (by rw [← Hl2.out] at h0; cases L2 with | nil => simp at h0 | cons q r => rfl) (fun off => by simp)), Hlt.out.2⟩
                have Hov3 : Hid (Rd x4 7 (.slice oo2 c' oc2) c' (slCells (chOut c' x))) := Lib.hid (Rd.put Hov.out hf4 (fun h0 => rd_ne (j := 6) Hov.out h0 V.out (u := .string ⟨#[]⟩) (by cases c' with | zero => omega | succ n => rfl) (fun off => by simp)))
                have HG : Hid (Fr no w x4) := Lib.hid ((hF.out.trans' HF.out).trans hf4 (fun i hi e => by have := hF.out.size; omega))
                have B3 := Lib.hid (hf4.heap (HF.out.heap hB.out (fun f => f)) (fun e => hgb e.symm))
                clear hb4 hf4
                go_simp
                refine hK.out _ _ ?_ (fun hHeld' => ?_)
                · show Sg157_1 _; rw [HSg157_1.out]; trivial
                clear hK K hHeld
                have hHeld := hHeld'
                clear hHeld'
                try simp only [Act.put, List.setIfInBounds_toArray, List.set_cons_zero, List.set_cons_succ]
                refine heldp_take (v := ?_) 10 1 rfl (by kernel_rfl) (.inl ⟨by rfl, ?_⟩) hHeld ?_
                rotate_left
                · intro w hSw; replace hSw : Sg157_1 w := hSw; rw [HSg157_1.out] at hSw; (try dsimp only at hSw); first | (go_simp; done) | (go_simp; with_reducible rfl)
                try simp only [Act.put, List.setIfInBounds_toArray, List.set_cons_zero, List.set_cons_succ]
                refine heldp_done (by kernel_rfl) ?_
                try clear hHeld
                clear HSg157_0
                try clear Sg157_0
                clear HSg157_1
                try clear Sg157_1
                clear q1 q2 q3 q4 c1 c2 c3 c4 z1 z2 z3 z4
                go_wp2
                go_meet
                exact ⟨gv, so2, sc2, lo2, lc2, oo2, oc2, rfl, rfl, hoc1, hoc2, hgb, B3, T2, Hse3, Hlt3, Hov3, HG⟩
            · refine heldp_op 8 0 rfl (by kernel_rfl) (fun K hK => ?_)
              go_simp
              have hfa : Fr no wc (wc.alloc (.cells #[.int .i64 0, .int .i64 0, .slice none 0 0, .slice none 0 0] 26)) := (Fr.refl no wc).alloc _
              have hba := World.alloc_heap_new wc (.cells #[.int .i64 0, .int .i64 0, .slice none 0 0, .slice none 0 0] 26)
              obtain ⟨gv, hgv⟩ : ∃ x, wc.heap.size = x := ⟨_, rfl⟩
              have hgw : W.heap.size ≤ gv := by rw [← hgv]; exact HF.out.size
              obtain ⟨wc, hwc⟩ : ∃ x, wc.alloc (.cells #[.int .i64 0, .int .i64 0, .slice none 0 0, .slice none 0 0] 26) = x := ⟨_, rfl⟩
              rw [hgv, hwc]
              rw [hgv, hwc] at hba
              rw [hwc] at hfa
              replace HF := Lib.hid (HF.out.trans' hfa)
              try replace D := Lib.hid (hfa.heap D.out (fun f => f))
              try replace Hov := Lib.hid (Hov.out.fr hfa (fun _ _ _ f => f))
              try replace Hse := Lib.hid (Hse.out.fr0' hfa)
              try replace Hlt := Lib.hid (Hlt.out.fr0' hfa)
              have V := Lib.hid hba
              clear hba hfa hwc hgv
              refine hK.out _ _ ?_ (fun hHeld' => ?_)
              · show Sg157_0 _; rw [HSg157_0.out]; have hb := HF.out.heap hB.out (fun f => f); exact ⟨cell_of_block hb rfl, cell_of_block hb rfl, cell_of_block hb rfl, cell_of_block hb rfl⟩
              clear hK K hHeld
              have hHeld := hHeld'
              clear hHeld'
              try simp only [Act.put, List.setIfInBounds_toArray, List.set_cons_zero, List.set_cons_succ]
              refine heldp_call 2 0 rfl (by kernel_rfl) (fun K hK => ?_)
              go_simp
              go_at_call 26
              refine (show Calls _ _ _ _ (fun e w' => e = .returned (.agg #[.int .i64 0, .int .i64 1, .int .i64 S, .slice none 0 0, .string ⟨#[107]⟩, .string ⟨#[]⟩]) ∧ Fr no wc w') from (by have h := law_D 1 S none 0 0 [] wc; rw [mkDr_ch (by omega)] at h; exact h)).mono ?_
              rintro e wc ⟨rfl, hfd⟩
              replace HF := Lib.hid (HF.out.trans' hfd)
              try replace V := Lib.hid (hfd.heap V.out (fun f => f))
              clear hfd
              refine hK.out _ _ ?_ (fun hHeld' => ?_)
              · show Sg157_0 _; rw [HSg157_0.out]; have hb := HF.out.heap hB.out (fun f => f); exact ⟨cell_of_block hb rfl, cell_of_block hb rfl, cell_of_block hb rfl, cell_of_block hb rfl⟩
              clear hK K hHeld
              have hHeld := hHeld'
              clear hHeld'
              try simp only [Act.put, List.setIfInBounds_toArray, List.set_cons_zero, List.set_cons_succ]
              refine heldp_call 3 0 rfl (by kernel_rfl) (fun K hK => ?_)
              go_simp
              have hfa : Fr no wc (wc.alloc (.cells #[.int .i64 0, .int .i64 1, .int .i64 S, .slice none 0 0, .string ⟨#[107]⟩, .string ⟨#[]⟩] 41)) := (Fr.refl no wc).alloc _
              have hba := World.alloc_heap_new wc (.cells #[.int .i64 0, .int .i64 1, .int .i64 S, .slice none 0 0, .string ⟨#[107]⟩, .string ⟨#[]⟩] 41)
              obtain ⟨gd, hgd⟩ : ∃ x, wc.heap.size = x := ⟨_, rfl⟩
              obtain ⟨wc, hwc⟩ : ∃ x, wc.alloc (.cells #[.int .i64 0, .int .i64 1, .int .i64 S, .slice none 0 0, .string ⟨#[107]⟩, .string ⟨#[]⟩] 41) = x := ⟨_, rfl⟩
              rw [hgd, hwc]
              rw [hgd, hwc] at hba
              rw [hwc] at hfa
              replace HF := Lib.hid (HF.out.trans' hfa)
              try replace V := Lib.hid (hfa.heap V.out (fun f => f))
              have D := Lib.hid hba
              clear hba hfa hwc hgd
              refine hK.out _ _ ?_ (fun hHeld' => ?_)
              · show Sg157_0 _; rw [HSg157_0.out]; have hb := HF.out.heap hB.out (fun f => f); exact ⟨cell_of_block hb rfl, cell_of_block hb rfl, cell_of_block hb rfl, cell_of_block hb rfl⟩
              clear hK K hHeld
              have hHeld := hHeld'
              clear hHeld'
              try simp only [Act.put, List.setIfInBounds_toArray, List.set_cons_zero, List.set_cons_succ]
              refine heldp_call 4 0 rfl (by kernel_rfl) (fun K hK => ?_)
              go_simp
              go_at_call 17
              refine (HA.out wc gd HF.out D.out).mono ?_
              rintro e wc ⟨sv', tv', ov', rfl, hse, hlt', hov, hfd⟩
              obtain ⟨so2, sc2, rfl, _, _⟩ := hse.rd.cap
              obtain ⟨lo2, lc2, rfl, _, _⟩ := hlt'.rd.cap
              obtain ⟨oo2, oc2, rfl, hoc1, hoc2⟩ := hov.cap
              have Hse := Lib.hid hse
              have Hlt := Lib.hid hlt'
              have Hov := Lib.hid hov
              replace HF := Lib.hid (HF.out.trans' hfd)
              try replace V := Lib.hid (hfd.heap V.out (fun f => f))
              clear hfd hov hse hlt' D
              refine hK.out _ _ ?_ (fun hHeld' => ?_)
              · show Sg157_0 _; rw [HSg157_0.out]; have hb := HF.out.heap hB.out (fun f => f); exact ⟨cell_of_block hb rfl, cell_of_block hb rfl, cell_of_block hb rfl, cell_of_block hb rfl⟩
              clear hK K hHeld
              have hHeld := hHeld'
              clear hHeld'
              try simp only [Act.put, List.setIfInBounds_toArray, List.set_cons_zero, List.set_cons_succ]
              refine heldp_take (v := ?_) 5 0 rfl (by kernel_rfl) (.inl ⟨by rfl, ?_⟩) hHeld ?_
              rotate_left
              · intro w hSw; replace hSw : Sg157_0 w := hSw; rw [HSg157_0.out] at hSw; (try dsimp only at hSw); first | (go_simp; done) | (go_simp; with_reducible rfl)
              try simp only [Act.put, List.setIfInBounds_toArray, List.set_cons_zero, List.set_cons_succ]
              refine heldp_take (v := ?_) 6 0 rfl (by kernel_rfl) (.inl ⟨by rfl, ?_⟩) hHeld ?_
              rotate_left
              · intro w hSw; replace hSw : Sg157_0 w := hSw; rw [HSg157_0.out] at hSw; (try dsimp only at hSw); first | (go_simp; done) | (go_simp; with_reducible rfl)
              try simp only [Act.put, List.setIfInBounds_toArray, List.set_cons_zero, List.set_cons_succ]
              refine heldp_free (v := ?_) 7 0 rfl (by kernel_rfl) (.inl ⟨by rfl, ?_⟩) hHeld ?_
              rotate_left
              · intro w hSw; clear hSw; first | (go_simp; done) | (go_simp; with_reducible rfl)
              try simp only [Act.put, List.setIfInBounds_toArray, List.set_cons_zero, List.set_cons_succ]
              refine heldp_call 9 1 rfl (by kernel_rfl) (fun K hK => ?_)
              rw [if_pos (by rfl)]
              obtain ⟨x1, x2, x3, x4, q1, q2, q3, q4, c1, c2, c3, c4, z1, z2, z3, z4, hb4, hf4⟩ := set4 V.out (.int .i64 0) (.int .i64 X) (.slice so2 s2 sc2) (.slice lo2 l2 lc2)
              have T2 := Lib.hid hb4
              have hbl : bt < W.heap.size := (Array.getElem?_eq_some_iff.1 hB.out).1
              have hgb : gv ≠ bt := by omega
              have Hse3 : Hid (RdX (fun g => g = bt) x4 1 (.slice so2 s2 sc2) s2 ((chS X).map (Value.int .i64))) := Lib.hid ⟨Rd.put Hse.out.rd hf4 (fun h0 => rd_ne (j := 1) Hse.out.rd h0 V.out (u := .int .i64 X) (by rw [← Hs2.out] at h0; unfold chS at h0 ⊢; split at h0; simp at h0; rename_i hx; rw [if_neg hx]; rfl) (fun off => by rcases off with _ | _ | _ | off <;> simp; (try (rw [← Hs2.out] at h0; unfold chS at h0; split at h0; simp at h0; rename_i hx; exact fun e => hx e.symm)))), Hse.out.2⟩
              have Hlt3 : Hid (RdX (fun g => g = bt) x4 6 (.slice lo2 l2 lc2) l2 (drCells (L2.map chD))) := Lib.hid ⟨Rd.put Hlt.out.rd hf4 (fun h0 => rd_ne (j := 5) Hlt.out.rd h0 V.out (u := .string ⟨#[]⟩) (by rw [← Hl2.out] at h0; cases L2 with | nil => simp at h0 | cons q r => rfl) (fun off => by simp)), Hlt.out.2⟩
              have Hov3 : Hid (Rd x4 7 (.slice oo2 c' oc2) c' (slCells (chOut c' x))) := Lib.hid (Rd.put Hov.out hf4 (fun h0 => rd_ne (j := 6) Hov.out h0 V.out (u := .string ⟨#[]⟩) (by cases c' with | zero => omega | succ n => rfl) (fun off => by simp)))
              have HG : Hid (Fr no w x4) := Lib.hid ((hF.out.trans' HF.out).trans hf4 (fun i hi e => by have := hF.out.size; omega))
              have B3 := Lib.hid (hf4.heap (HF.out.heap hB.out (fun f => f)) (fun e => hgb e.symm))
              clear hb4 hf4
              go_simp
              refine hK.out _ _ ?_ (fun hHeld' => ?_)
              · show Sg157_1 _; rw [HSg157_1.out]; trivial
              clear hK K hHeld
              have hHeld := hHeld'
              clear hHeld'
              try simp only [Act.put, List.setIfInBounds_toArray, List.set_cons_zero, List.set_cons_succ]
              refine heldp_take (v := ?_) 10 1 rfl (by kernel_rfl) (.inl ⟨by rfl, ?_⟩) hHeld ?_
              rotate_left
              · intro w hSw; replace hSw : Sg157_1 w := hSw; rw [HSg157_1.out] at hSw; (try dsimp only at hSw); first | (go_simp; done) | (go_simp; with_reducible rfl)
              try simp only [Act.put, List.setIfInBounds_toArray, List.set_cons_zero, List.set_cons_succ]
              refine heldp_done (by kernel_rfl) ?_
              try clear hHeld
              clear HSg157_0
              try clear Sg157_0
              clear HSg157_1
              try clear Sg157_1
              clear q1 q2 q3 q4 c1 c2 c3 c4 z1 z2 z3 z4
              go_wp2
              go_meet
              exact ⟨gv, so2, sc2, lo2, lc2, oo2, oc2, rfl, rfl, hoc1, hoc2, hgb, B3, T2, Hse3, Hlt3, Hov3, HG⟩
          case rest =>
            obtain ⟨gu, so2, sc2, lo2, lc2, oo2, oc2, rfl, rfl, hoc1, hoc2, hgb, B3, T2, Hse3, Hlt3, Hov3, HG⟩ := hcut
            clear HA hB hSe hLt hC hF
            generalize wc = V at *
            go_wp2_with fail
            go_loopw [7, 12] (fun nv jv wr => ∃ (j : Nat) (NY : Int), j ≤ c' ∧ jv = .int .i64 j ∧ nv = .int .i64 NY ∧ V = wr ∧ Hid (NY = x + 1 + j)) (fun _ jv _ => c' - (intOf jv).toNat)
            case atStart => exact ⟨0, NX, Nat.zero_le _, rfl, rfl, rfl, Lib.hid (by rw [hNX.out]; simp)⟩
            case round =>
              obtain ⟨j, NY, hj, rfl, rfl, rfl, hNY⟩ := hrel
              have hc13 : c' ≤ 12 := by have := Hc1.out; omega
              by_cases hjl : j < c'
              · have hgt := chOut_get c' x j hjl
                obtain ⟨go, offo, oc3, heo, _, _, e0, e1, e2, e3, _⟩ := sls_cells (l := chOut c' x) (v := .slice oo2 c' oc2) (by rw [chOut_len]; exact Hov3.out) hgt
                rw [chOut_len] at heo
                cases heo
                have e4 : (chD (x + j + 1)).q = NY := by rw [hNY.out]; simp [chD]; omega
                rw [e4] at e3
                dsimp only at e0
                obtain ⟨PY, hPY⟩ : ∃ PY : Int, x + (j : Int) = PY := ⟨_, rfl⟩
                rw [hPY] at e0
                have y1 : (PY != NY - 1) = false := by have : NY - 1 = PY := by have := hNY.out; omega
                                                       rw [this]; exact bne_same _
                have hNYb : 1 ≤ NY ∧ NY ≤ 100 := by have := hNY.out; omega
                have hNY2 : Hid (NY + 1 = x + 1 + ((j + 1 : Nat) : Int)) := Lib.hid (by have := hNY.out; push_cast; omega)
                clear hgt e4 hPY
                go_wp2
                go_roundw
                case rel => exact ⟨j + 1, NY + 1, by omega, by go_num, rfl, trivial, hNY2⟩
                case measure => simp [intOf]; omega
              · obtain rfl : c' = j := by omega
                have hu0 := cell_of_block (j := 0) T2.out rfl
                have hu1 := cell_of_block (j := 1) T2.out rfl
                have hu2 := cell_of_block (j := 2) T2.out rfl
                have hu3 := cell_of_block (j := 3) T2.out rfl
                obtain ⟨x1, x2, x3, x4, q1, q2, q3, q4, c1, c2, c3, c4, z1, z2, z3, z4, hb4, hf4⟩ := set4 B3.out (.int .i64 0) (.int .i64 X) (.slice so2 s2 sc2) (.slice lo2 l2 lc2)
                have B4 := Lib.hid hb4
                have S4 := Lib.hid (Hse3.out.fr hf4 (fun g _ e => e))
                have L4 := Lib.hid (Hlt3.out.fr hf4 (fun g _ e => e))
                have G4 : Hid (Fr no w x4) := Lib.hid (HG.out.trans hf4 (fun i hi e => by omega))
                have N4 : Hid (NY = X + 1) := Lib.hid (by have := hNY.out; have := Hc1.out; omega)
                clear hb4 hf4
                go_wp2
                go_roundw
                case rel => exact ⟨i + 1, X, NY, L2, so2, s2, sc2, lo2, l2, lc2, by omega, by go_num, rfl, N4, Lib.hid Hs2.out.symm, Lib.hid Hl2.out.symm, B4, S4, L4, Hfeed, G4⟩
                case measure => simp [intOf]; omega
      · obtain ⟨hxK, hL0⟩ := hC.out.done (by omega)
        subst hxK
        subst hL0
        have hx1 : 1 ≤ x ∧ x ≤ 12 := hK1
        have hss : chS x = [0, x] := by unfold chS; rw [if_neg (by omega)]
        have hs2 : sl = 2 := by rw [hsl.out, hss]; rfl
        have hl0 : ll = 0 := hll.out
        subst hs2
        subst hl0
        have t1 := cell_of_block (j := 1) hB.out rfl
        have t2 := cell_of_block (j := 2) hB.out rfl
        have t3 := cell_of_block (j := 3) hB.out rfl
        have hsv : Rd W 1 (.slice so 2 sc) 2 [.int .i64 0, .int .i64 x] := by have := hSe.out.rd; rw [hss] at this; exact this
        have Hsv := Lib.hid hsv
        have y1 : (NX == x + 1) = true := by rw [hNX.out]; simp
        have hNXb : NX ≤ 13 := by have := hNX.out; omega
        clear hsv hss
        go_wp2_with fail
        have hfl := (Fr.refl no W).alloc (.cells #[.int .i64 0, .int .i64 x] 3)
        have hsm := ref_same (.slice so 2 sc) (.slice (some ⟨W.heap.size, 0, none⟩) 2 2) [0, x] [0, x] (W.alloc (.cells #[.int .i64 0, .int .i64 x] 3)) (Rd.fr Hsv.out hfl (fun _ _ _ f => f)) (rd_blk (World.alloc_heap_new W _))
        rw [vcov_refl, Bool.and_self] at hsm
        refine hsm.mono ?_
        have HG2 := Lib.hid (hF.out.trans' hfl)
        clear hsm hfl
        rintro e w' ⟨rfl, rfl⟩
        go_wp2
        go_ret
        exact ⟨rfl, HG2.out⟩
end Go.Proofs.Ytdddgfienicaaaa
