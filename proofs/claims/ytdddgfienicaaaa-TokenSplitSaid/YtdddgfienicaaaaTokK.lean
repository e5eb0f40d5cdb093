/- Laws of the token: drafts of the law's own, what is known. -/
import Derived.Test.YtdddgfienicaaaaTok3
import Derived.Test.YtdddgfienicaaaaRefVec
import Derived.Test.YtdddgfienicaaaaHeld2
import Derived.IntWalk
namespace Go.XL
open Go.RowKit Go.Shelf
set_option linter.unusedVariables false
/-- the law's own draft -/
def mkDr (s q : Int) (dv : Value) (dep : List Int) : Dr := ⟨if q = 0 then 1 else 0, s, q, dv, dep, ⟨#[107]⟩, ⟨#[]⟩⟩
/-- four cells of a block written, one behind the other -/
theorem set4 {w : World} {g : Nat} {a0 a1 a2 a3 : Value} {E : TypeId} (h : w.heap[g]? = some (.cells #[a0, a1, a2, a3] E (0, 0))) (b0 b1 b2 b3 : Value) :
    ∃ w1 w2 w3 w4, w.setCell ⟨g, 0, none⟩ b0 = w1 ∧ w1.setCell ⟨g, 1, none⟩ b1 = w2 ∧ w2.setCell ⟨g, 2, none⟩ b2 = w3 ∧ w3.setCell ⟨g, 3, none⟩ b3 = w4 ∧
      w.cell? ⟨g, 0, none⟩ = some a0 ∧ w1.cell? ⟨g, 1, none⟩ = some a1 ∧ w2.cell? ⟨g, 2, none⟩ = some a2 ∧ w3.cell? ⟨g, 3, none⟩ = some a3 ∧
      w.frozen? ⟨g, 0, none⟩ = false ∧ w1.frozen? ⟨g, 1, none⟩ = false ∧ w2.frozen? ⟨g, 2, none⟩ = false ∧ w3.frozen? ⟨g, 3, none⟩ = false ∧
      w4.heap[g]? = some (.cells #[b0, b1, b2, b3] E (0, 0)) ∧ Fr (fun i => i = g) w w4 := by
  have h1 : (w.setCell ⟨g, 0, none⟩ b0).heap[g]? = some (.cells #[b0, a1, a2, a3] E (0, 0)) := by simpa using heap_setC (j := 0) b0 h
  have h2 : ((w.setCell ⟨g, 0, none⟩ b0).setCell ⟨g, 1, none⟩ b1).heap[g]? = some (.cells #[b0, b1, a2, a3] E (0, 0)) := by simpa using heap_setC (j := 1) b1 h1
  have h3 : (((w.setCell ⟨g, 0, none⟩ b0).setCell ⟨g, 1, none⟩ b1).setCell ⟨g, 2, none⟩ b2).heap[g]? = some (.cells #[b0, b1, b2, a3] E (0, 0)) := by simpa using heap_setC (j := 2) b2 h2
  have h4 : ((((w.setCell ⟨g, 0, none⟩ b0).setCell ⟨g, 1, none⟩ b1).setCell ⟨g, 2, none⟩ b2).setCell ⟨g, 3, none⟩ b3).heap[g]? = some (.cells #[b0, b1, b2, b3] E (0, 0)) := by simpa using heap_setC (j := 3) b3 h3
  have F : ∀ (X : World) (j : Nat) (v : Value), Fr (fun i => i = g) X (X.setCell ⟨g, j, none⟩ v) := fun X j v => (Fr.refl (fun i => i = g) X).setCell (p := ⟨g, j, none⟩) (fun _ => rfl) _
  exact ⟨_, _, _, _, rfl, rfl, rfl, rfl, cell_of_block h rfl, cell_of_block h1 rfl, cell_of_block h2 rfl, cell_of_block h3 rfl, frozen_of_block h, frozen_of_block h1, frozen_of_block h2, frozen_of_block h3, h4, ((F _ _ _).trans' (F _ _ _)).trans' ((F _ _ _).trans' (F _ _ _))⟩
/-- Check of a token -/
def tcheck (own next : Int) (seen : List Int) : Int := if own < 0 then 1 else if own ≥ 8 then 1 else if next < 0 then 1 else vcheck seen 8
end Go.XL
namespace Go.Proofs.Ytdddgfienicaaaa
open Go.RowKit Go.Shelf Go.XL
set_option linter.unusedVariables false
set_option linter.unusedSimpArgs false
attribute [local go_sem] Oper.semAt_some

set_option maxHeartbeats 1000000 in
theorem law_D (s q : Int) (ao : Option Addr) (n cap : Nat) (dep : List Int) (w : World) :
    Calls Try.prog 26 #[.int .i64 s, .int .i64 q, .slice ao n cap] w fun e w' => e = .returned (mkDr s q (.slice ao n cap) dep).v ∧ Fr no w w' := by
  have hf : ∀ c, Fr no w (w.alloc c) := fun c => (Fr.refl no w).alloc _
  have HF := Lib.hid hf
  clear hf
  have hm : ∀ t, (if q = 0 then (1 : Int) else 0) = t → Hid ((mkDr s q (.slice ao n cap) dep).v = .agg #[.int .i64 t, .int .i64 s, .int .i64 q, .slice ao n cap, .string ⟨#[107]⟩, .string ⟨#[]⟩]) := fun t h => Lib.hid (by unfold mkDr Dr.v; dsimp only; rw [h])
  by_cases hq : q = 0
  · have R := hm 1 (if_pos hq)
    clear hm
    subst hq
    rw [R.out]
    go_enter Try.func26, Try.ntmps26
    go_wp2
    refine bodyPost_ret (v := .agg #[.int .i64 1, .int .i64 s, .int .i64 0, .slice ao n cap, .string ⟨#[107]⟩, .string ⟨#[]⟩]) ?_ rfl ⟨rfl, HF.out _⟩
    have hb := World.alloc_heap_new w (.cells #[.int .i64 1, .int .i64 s, .int .i64 0, .slice ao n cap, .string ⟨#[107]⟩, .string ⟨#[]⟩] 41)
    have y0 := cell_of_block (j := 0) hb rfl
    have y1 := cell_of_block (j := 1) hb rfl
    have y2 := cell_of_block (j := 2) hb rfl
    have y3 := cell_of_block (j := 3) hb rfl
    have y4 := cell_of_block (j := 4) hb rfl
    have y5 := cell_of_block (j := 5) hb rfl
    clear hb
    simp [results, Try.results26, go_sem, y0, y1, y2, y3, y4, y5]
  · have R := hm 0 (if_neg hq)
    clear hm
    rw [R.out]
    go_enter Try.func26, Try.ntmps26
    go_wp2
    refine bodyPost_ret (v := .agg #[.int .i64 0, .int .i64 s, .int .i64 q, .slice ao n cap, .string ⟨#[107]⟩, .string ⟨#[]⟩]) ?_ rfl ⟨rfl, HF.out _⟩
    have hb := World.alloc_heap_new w (.cells #[.int .i64 0, .int .i64 s, .int .i64 q, .slice ao n cap, .string ⟨#[107]⟩, .string ⟨#[]⟩] 41)
    have y0 := cell_of_block (j := 0) hb rfl
    have y1 := cell_of_block (j := 1) hb rfl
    have y2 := cell_of_block (j := 2) hb rfl
    have y3 := cell_of_block (j := 3) hb rfl
    have y4 := cell_of_block (j := 4) hb rfl
    have y5 := cell_of_block (j := 5) hb rfl
    clear hb
    simp [results, Try.results26, go_sem, y0, y1, y2, y3, y4, y5]

theorem tCheck (own next : Int) (sv lv : Value) (seen : List Int) (w : World) (hs : IntsAt w sv seen) :
    Calls Try.prog 10 #[tkV own next sv lv] w fun e w' => e = .returned (.int .i64 (tcheck own next seen)) ∧ Fr no w w' := by
  obtain ⟨so, sc, rfl, _, _⟩ := hs.cap
  have hf : ∀ c, Fr no w (w.alloc c) := fun c => (Fr.refl no w).alloc _
  have HF := Lib.hid hf
  have Hch := Lib.hid (fun (w' : World) (h : Fr no w w') => vec_check (.slice so seen.length sc) seen 8 w' (hs.fr h (fun _ _ _ f => f)))
  have hm : ∀ t, (if own < 0 then 1 else if own ≥ 8 then 1 else if next < 0 then 1 else vcheck seen 8) = t → Hid (tcheck own next seen = t) := fun t h => Lib.hid h
  clear hf hs
  generalize seen.length = sn at *
  unfold tkV
  by_cases h1 : own < 0
  · have R := hm 1 (by rw [if_pos h1])
    clear hm
    rw [R.out]
    go_enter Try.func10, Try.ntmps10
    go_wp2
    go_ret
    exact ⟨rfl, HF.out _⟩
  · by_cases h2 : 8 ≤ own
    · have R := hm 1 (by rw [if_neg h1, if_pos h2])
      clear hm
      rw [R.out]
      go_enter Try.func10, Try.ntmps10
      go_wp2
      go_ret
      exact ⟨rfl, HF.out _⟩
    · by_cases h3 : next < 0
      · have R := hm 1 (by rw [if_neg h1, if_neg h2, if_pos h3])
        clear hm
        rw [R.out]
        go_enter Try.func10, Try.ntmps10
        go_wp2
        go_ret
        exact ⟨rfl, HF.out _⟩
      · have R := hm (vcheck seen 8) (by rw [if_neg h1, if_neg h2, if_neg h3])
        clear hm
        rw [R.out]
        go_enter Try.func10, Try.ntmps10
        go_wp2_with fail
        refine (Hch.out _ (HF.out _)).mono ?_
        rintro e w2 ⟨rfl, hf2⟩
        have HF2 := Lib.hid ((HF.out _).trans' hf2)
        clear hf2
        go_wp2
        go_ret
        exact ⟨rfl, HF2.out⟩

def k12 : Dr := mkDr 1 2 (.slice none 0 0) []
def k11 : Dr := mkDr 1 1 (.slice none 0 0) []
def k0 (g : Nat) : Dr := mkDr 0 0 (.slice (some ⟨g, 0, none⟩) 2 2) [0, 2]
theorem known1 (g : Nat) : ago 0 2 ⟨5, [], [k12, k0 g], []⟩ = ⟨5, [], [k12, k0 g], []⟩ := by rfl
theorem known1l (g : Nat) : alate 0 [] [k12, k0 g] [] = [k12, k0 g] := by rfl
theorem known2 (g : Nat) : ago 0 5 ⟨5, [], [k12, k0 g, k11, k12, k11], []⟩ = ⟨8, [1, 2], [k12, k11], [(5, k11), (6, k12), (7, { k0 g with q := 1 })]⟩ := by rfl
theorem known2l : alate 0 [1, 2] [k12, k11] [] = [] := by rfl

theorem rd_zero (w : World) (size : Nat) : Rd w size (.slice none 0 0) 0 [] := ⟨by simp, none, 0, rfl, Nat.le_refl _, by simp [maxLen], fun _ => rfl, fun h => absurd h (Nat.lt_irrefl _)⟩
theorem rd_blk {w : World} {g n size : Nat} {cs : Array Value} {xs : List Value} {E : TypeId} (h : w.heap[g]? = some (.cells cs E (0, 0))) (hx : xs.length = n * size := by rfl) (hc : cs.toList = xs := by rfl) (hn : n ≤ 1000000 := by decide) : Rd w size (.slice (some ⟨g, 0, none⟩) n n) n xs := by
  subst hc
  refine ⟨hx, _, n, rfl, Nat.le_refl _, by unfold maxLen; omega, by simp, fun _ => ⟨g, 0, rfl, fun j u hj => cell_of_block h (by simpa using hj)⟩⟩
theorem rd_none (w : World) (size : Nat) (so : Option Addr) (sc : Nat) (h1 : sc ≤ maxLen) (h2 : so = none → sc = 0) : Rd w size (.slice so 0 sc) 0 [] := ⟨by simp, so, sc, rfl, Nat.zero_le _, h1, h2, fun h => absurd h (Nat.lt_irrefl _)⟩
theorem k12_ok (w : World) : DrOk w k12 := rd_zero _ _
theorem k11_ok (w : World) : DrOk w k11 := rd_zero _ _
set_option maxRecDepth 100000 in
set_option maxHeartbeats 4000000 in
theorem law_known (w : World) : Calls Try.prog 8 #[] w fun e w' => e = .returned (.bool true) ∧ Fr no w w' := by
  have hf1 : Fr no w (w.alloc (.cells #[.int .i64 0, .int .i64 5, .slice none 0 0, .slice none 0 0] 26)) := (Fr.refl no w).alloc _
  have hb1 := World.alloc_heap_new w (.cells #[.int .i64 0, .int .i64 5, .slice none 0 0, .slice none 0 0] 26)
  obtain ⟨w1, hw1⟩ : ∃ w1, w.alloc (.cells #[.int .i64 0, .int .i64 5, .slice none 0 0, .slice none 0 0] 26) = w1 := ⟨_, rfl⟩
  have HW1 := Lib.hid hw1
  rw [hw1] at hf1 hb1
  have HF1 := Lib.hid hf1
  have HB1 := Lib.hid hb1
  clear hw1 hf1 hb1
  go_enter Try.func8, Try.ntmps8
  go_wp2_with fail
  rw [HW1.out]
  clear HW1
  go_upto_region 2 with (fail)
  go_cut [2] (fun v wx => ∃ (so : Option Addr) (sc : Nat) (lo : Option Addr) (lc : Nat) (oo : Option Addr) (oc gl : Nat), v = .slice oo 0 oc ∧ Hid (wx.heap[w.heap.size]? = some (.cells #[.int .i64 0, .int .i64 5, .slice so 0 sc, .slice lo 2 lc] 26 (0, 0))) ∧ w.heap.size ≠ gl ∧ Hid (wx.heap[gl]? = some (.cells #[.int .i64 0, .int .i64 2] 3 (0, 0))) ∧ Hid (Rd wx 6 (.slice lo 2 lc) 2 (drCells [k12, k0 gl])) ∧ Hid (Fr no w wx) ∧ Hid (sc ≤ maxLen ∧ (so = none → sc = 0)) ∧ oc ≤ 9223372036854775807 ∧ 2 ≤ lc ∧ lc ≤ 9223372036854775807)
  case first =>
    obtain ⟨Sg151_0, HSg151_0⟩ : ∃ S : World → Prop, Hid (S = (fun w' => w'.cell? ⟨w.heap.size, 0, none⟩ = some (.int .i64 0) ∧ w'.cell? ⟨w.heap.size, 1, none⟩ = some (.int .i64 5) ∧ w'.cell? ⟨w.heap.size, 2, none⟩ = some (.slice none 0 0) ∧ w'.cell? ⟨w.heap.size, 3, none⟩ = some (.slice none 0 0))) := ⟨_, Lib.hid rfl⟩
    obtain ⟨Sg151_1, HSg151_1⟩ : ∃ S : World → Prop, Hid (S = (fun _ => True)) := ⟨_, Lib.hid rfl⟩
    refine wp_heldp [9] (pickS [Sg151_0, Sg151_1]) (by kernel_rfl) ?_ (fun hHeld => ?_)
    · show Sg151_0 _; rw [HSg151_0.out]; have hb : w1.drew.heap[w.heap.size]? = _ := HB1.out; exact ⟨cell_of_block hb rfl, cell_of_block hb rfl, cell_of_block hb rfl, cell_of_block hb rfl⟩
    obtain ⟨wc, hwc⟩ : ∃ x, w1.drew = x := ⟨_, rfl⟩; rw [hwc] at hHeld; rw [hwc]; have HF : Hid (Fr no w1 wc) := (by rw [← hwc]; exact Lib.hid ((Fr.refl no w1).drewN 1)); clear hwc
    refine heldp_take (v := ?_) 0 0 rfl (by kernel_rfl) (.inl ⟨by rfl, ?_⟩) hHeld ?_
    rotate_left
    · intro w hSw; replace hSw : Sg151_0 w := hSw; rw [HSg151_0.out] at hSw; (try dsimp only at hSw); first | (go_simp; done) | (go_simp; with_reducible rfl)
    try simp only [Act.put, List.setIfInBounds_toArray, List.set_cons_zero, List.set_cons_succ]
    refine heldp_two 1 2 (by kernel_rfl) ?_ ?_
    · refine heldp_op 1 0 rfl (by kernel_rfl) (fun K hK => ?_)
      go_simp
      go_at_call 26
      refine (show Calls _ _ _ _ (fun e w' => e = .returned (.agg #[.int .i64 0, .int .i64 1, .int .i64 2, .slice none 0 0, .string ⟨#[107]⟩, .string ⟨#[]⟩]) ∧ Fr no wc w') from law_D 1 2 none 0 0 [] wc).mono ?_
      rintro e wc ⟨rfl, hfd⟩
      replace HF := Lib.hid (HF.out.trans' hfd)
      try replace L := Lib.hid (hfd.heap L.out (fun f => f))
      clear hfd
      refine hK.out _ _ ?_ (fun hHeld' => ?_)
      · show Sg151_0 _; rw [HSg151_0.out]; have hb := HF.out.heap HB1.out (fun f => f); exact ⟨cell_of_block hb rfl, cell_of_block hb rfl, cell_of_block hb rfl, cell_of_block hb rfl⟩
      clear hK K hHeld
      have hHeld := hHeld'
      clear hHeld'
      try simp only [Act.put, List.setIfInBounds_toArray, List.set_cons_zero, List.set_cons_succ]
      refine heldp_call 2 0 rfl (by kernel_rfl) (fun K hK => ?_)
      go_simp
      have hfa : Fr no wc (wc.alloc (.cells #[.int .i64 0, .int .i64 2] 3)) := (Fr.refl no wc).alloc _
      have hba := World.alloc_heap_new wc (.cells #[.int .i64 0, .int .i64 2] 3)
      obtain ⟨gl, hgl⟩ : ∃ x, wc.heap.size = x := ⟨_, rfl⟩
      have hgw : w1.heap.size ≤ gl := by rw [← hgl]; exact HF.out.size
      obtain ⟨wc, hwc⟩ : ∃ x, wc.alloc (.cells #[.int .i64 0, .int .i64 2] 3) = x := ⟨_, rfl⟩
      rw [hgl, hwc]
      rw [hgl, hwc] at hba
      rw [hwc] at hfa
      replace HF := Lib.hid (HF.out.trans' hfa)
      have L := Lib.hid hba
      clear hba hfa hwc hgl
      refine hK.out _ _ ?_ (fun hHeld' => ?_)
      · show Sg151_0 _; rw [HSg151_0.out]; have hb := HF.out.heap HB1.out (fun f => f); exact ⟨cell_of_block hb rfl, cell_of_block hb rfl, cell_of_block hb rfl, cell_of_block hb rfl⟩
      clear hK K hHeld
      have hHeld := hHeld'
      clear hHeld'
      try simp only [Act.put, List.setIfInBounds_toArray, List.set_cons_zero, List.set_cons_succ]
      refine heldp_call 3 0 rfl (by kernel_rfl) (fun K hK => ?_)
      go_simp
      go_at_call 26
      refine (show Calls _ _ _ _ (fun e w' => e = .returned (.agg #[.int .i64 1, .int .i64 0, .int .i64 0, .slice (some ⟨gl, 0, none⟩) 2 2, .string ⟨#[107]⟩, .string ⟨#[]⟩]) ∧ Fr no wc w') from law_D 0 0 (some ⟨gl, 0, none⟩) 2 2 [0, 2] wc).mono ?_
      rintro e wc ⟨rfl, hfd⟩
      replace HF := Lib.hid (HF.out.trans' hfd)
      replace L := Lib.hid (hfd.heap L.out (fun f => f))
      clear hfd
      refine hK.out _ _ ?_ (fun hHeld' => ?_)
      · show Sg151_0 _; rw [HSg151_0.out]; have hb := HF.out.heap HB1.out (fun f => f); exact ⟨cell_of_block hb rfl, cell_of_block hb rfl, cell_of_block hb rfl, cell_of_block hb rfl⟩
      clear hK K hHeld
      have hHeld := hHeld'
      clear hHeld'
      try simp only [Act.put, List.setIfInBounds_toArray, List.set_cons_zero, List.set_cons_succ]
      refine heldp_call 4 0 rfl (by kernel_rfl) (fun K hK => ?_)
      go_simp
      have hfa : Fr no wc (wc.alloc (.cells #[.int .i64 0, .int .i64 1, .int .i64 2, .slice none 0 0, .string ⟨#[107]⟩, .string ⟨#[]⟩, .int .i64 1, .int .i64 0, .int .i64 0, .slice (some ⟨gl, 0, none⟩) 2 2, .string ⟨#[107]⟩, .string ⟨#[]⟩] 41)) := (Fr.refl no wc).alloc _
      have hba := World.alloc_heap_new wc (.cells #[.int .i64 0, .int .i64 1, .int .i64 2, .slice none 0 0, .string ⟨#[107]⟩, .string ⟨#[]⟩, .int .i64 1, .int .i64 0, .int .i64 0, .slice (some ⟨gl, 0, none⟩) 2 2, .string ⟨#[107]⟩, .string ⟨#[]⟩] 41)
      obtain ⟨gd, hgd⟩ : ∃ x, wc.heap.size = x := ⟨_, rfl⟩
      obtain ⟨wc, hwc⟩ : ∃ x, wc.alloc (.cells #[.int .i64 0, .int .i64 1, .int .i64 2, .slice none 0 0, .string ⟨#[107]⟩, .string ⟨#[]⟩, .int .i64 1, .int .i64 0, .int .i64 0, .slice (some ⟨gl, 0, none⟩) 2 2, .string ⟨#[107]⟩, .string ⟨#[]⟩] 41) = x := ⟨_, rfl⟩
      rw [hgd, hwc]
      rw [hgd, hwc] at hba
      rw [hwc] at hfa
      replace HF := Lib.hid (HF.out.trans' hfa)
      replace L := Lib.hid (hfa.heap L.out (fun f => f))
      have D := Lib.hid hba
      clear hba hfa hwc hgd
      refine hK.out _ _ ?_ (fun hHeld' => ?_)
      · show Sg151_0 _; rw [HSg151_0.out]; have hb := HF.out.heap HB1.out (fun f => f); exact ⟨cell_of_block hb rfl, cell_of_block hb rfl, cell_of_block hb rfl, cell_of_block hb rfl⟩
      clear hK K hHeld
      have hHeld := hHeld'
      clear hHeld'
      try simp only [Act.put, List.setIfInBounds_toArray, List.set_cons_zero, List.set_cons_succ]
      refine heldp_call 5 0 rfl (by kernel_rfl) (fun K hK => ?_)
      go_simp
      have hok0 : DrOk wc (k0 gl) := rd_blk L.out
      have hA : Calls Try.prog 17 #[.agg #[.int .i64 0, .int .i64 5, .slice none 0 0, .slice none 0 0], .slice (some ⟨gd, 0, none⟩) 2 2] wc (fun e w' => ∃ sv' tv' ov', e = .returned (.tuple #[.agg #[.int .i64 0, .int .i64 5, sv', tv'], ov']) ∧ AdR wc w' 0 5 2 ⟨5, [], [k12, k0 gl], []⟩ (.slice none 0 0) sv' tv' ov') := tAdmit 0 5 (.slice none 0 0) (.slice none 0 0) (.slice (some ⟨gd, 0, none⟩) 2 2) [] [] [k12, k0 gl] wc (rd_zero _ _) (fun x h => by simp at h) (rd_zero _ _) (rd_blk D.out) (fun d hd => by simp at hd; rcases hd with rfl | rfl; exact k12_ok _; exact hok0) (fun d hd => by simp at hd; rcases hd with rfl | rfl <;> simp [k12, k0, mkDr]) (by simp) (by decide) (by decide) (by decide)
      go_at_call 17
      refine hA.mono ?_
      rintro e wd ⟨sv', tv', ov', rfl, hR⟩
      obtain ⟨_, so, sc, rfl, _, hsc1, hsc2, _⟩ := (show Rd wd 1 sv' 0 [] from hR.seen)
      have HscC : Hid (sc ≤ maxLen ∧ (so = none → sc = 0)) := Lib.hid ⟨hsc1, hsc2⟩
      clear hsc1 hsc2
      have hlt : Rd wd 6 tv' 2 (drCells [k12, k0 gl]) := hR.late
      obtain ⟨lo, lc, rfl, hl2, hlc⟩ := hlt.cap
      obtain ⟨oo, oc, rfl, _, hoc⟩ := (show Rd wd 7 ov' 0 [] from hR.out).cap
      have hwb : w.heap.size < w1.heap.size := (Array.getElem?_eq_some_iff.1 HB1.out).1
      have Hwb := Lib.hid hwb
      have Hto := Lib.hid (fun g (hg : (Value.slice lo 2 lc).ownBlock = some g) => Nat.lt_of_lt_of_le (Nat.lt_of_lt_of_le hwb HF.out.size) (hR.tvo g hg))
      have Hlt := Lib.hid hlt
      replace HF := Lib.hid (HF.out.trans' hR.fr)
      replace L := Lib.hid (hR.fr.heap L.out (fun f => f))
      clear hR hA hok0 hlt D hwb
      refine hK.out _ _ ?_ (fun hHeld' => ?_)
      · show Sg151_0 _; rw [HSg151_0.out]; have hb := HF.out.heap HB1.out (fun f => f); exact ⟨cell_of_block hb rfl, cell_of_block hb rfl, cell_of_block hb rfl, cell_of_block hb rfl⟩
      clear hK K hHeld
      have hHeld := hHeld'
      clear hHeld'
      try simp only [Act.put, List.setIfInBounds_toArray, List.set_cons_zero, List.set_cons_succ]
      refine heldp_take (v := ?_) 6 0 rfl (by kernel_rfl) (.inl ⟨by rfl, ?_⟩) hHeld ?_
      rotate_left
      · intro w hSw; replace hSw : Sg151_0 w := hSw; rw [HSg151_0.out] at hSw; (try dsimp only at hSw); first | (go_simp; done) | (go_simp; with_reducible rfl)
      try simp only [Act.put, List.setIfInBounds_toArray, List.set_cons_zero, List.set_cons_succ]
      refine heldp_take (v := ?_) 7 0 rfl (by kernel_rfl) (.inl ⟨by rfl, ?_⟩) hHeld ?_
      rotate_left
      · intro w hSw; replace hSw : Sg151_0 w := hSw; rw [HSg151_0.out] at hSw; (try dsimp only at hSw); first | (go_simp; done) | (go_simp; with_reducible rfl)
      try simp only [Act.put, List.setIfInBounds_toArray, List.set_cons_zero, List.set_cons_succ]
      refine heldp_free (v := ?_) 8 0 rfl (by kernel_rfl) (.inl ⟨by rfl, ?_⟩) hHeld ?_
      rotate_left
      · intro w hSw; clear hSw; first | (go_simp; done) | (go_simp; with_reducible rfl)
      try simp only [Act.put, List.setIfInBounds_toArray, List.set_cons_zero, List.set_cons_succ]
      refine heldp_call 9 1 rfl (by kernel_rfl) (fun K hK => ?_)
      rw [if_pos (by rfl)]
      obtain ⟨x1, x2, x3, x4, q1, q2, q3, q4, c1, c2, c3, c4, z1, z2, z3, z4, hb4, hf4⟩ := set4 (HF.out.heap HB1.out (fun f => f)) (.int .i64 0) (.int .i64 5) (.slice so 0 sc) (.slice lo 2 lc)
      have T := Lib.hid hb4
      have hbL : w.heap.size ≠ gl := by have := Hwb.out; omega
      replace L := Lib.hid (hf4.heap L.out (fun e => hbL e.symm))
      replace Hlt := Lib.hid (Hlt.out.fr hf4 (fun g hg _ e => by have := Hto.out g hg; omega))
      have HG : Hid (Fr no w x4) := Lib.hid ((HF1.out.trans' HF.out).trans hf4 (fun i hi e => by omega))
      clear hb4 hf4
      go_simp
      refine hK.out _ _ ?_ (fun hHeld' => ?_)
      · show Sg151_1 _; rw [HSg151_1.out]; trivial
      clear hK K hHeld
      have hHeld := hHeld'
      clear hHeld'
      try simp only [Act.put, List.setIfInBounds_toArray, List.set_cons_zero, List.set_cons_succ]
      refine heldp_take (v := ?_) 10 1 rfl (by kernel_rfl) (.inl ⟨by rfl, ?_⟩) hHeld ?_
      rotate_left
      · intro w hSw; replace hSw : Sg151_1 w := hSw; rw [HSg151_1.out] at hSw; (try dsimp only at hSw); first | (go_simp; done) | (go_simp; with_reducible rfl)
      try simp only [Act.put, List.setIfInBounds_toArray, List.set_cons_zero, List.set_cons_succ]
      refine heldp_done (by kernel_rfl) ?_
      try clear hHeld
      clear HSg151_0
      try clear Sg151_0
      clear HSg151_1
      try clear Sg151_1
      clear q1 q2 q3 q4 c1 c2 c3 c4 z1 z2 z3 z4
      go_wp2
      go_meet
      exact ⟨so, sc, lo, lc, oo, oc, gl, rfl, T, hbL, L, Hlt, HG, HscC, hoc, hl2, hlc⟩
    · refine heldp_op 2 0 rfl (by kernel_rfl) (fun K hK => ?_)
      go_simp
      have hfa : Fr no wc (wc.alloc (.cells #[.int .i64 0, .int .i64 2] 3)) := (Fr.refl no wc).alloc _
      have hba := World.alloc_heap_new wc (.cells #[.int .i64 0, .int .i64 2] 3)
      obtain ⟨gl, hgl⟩ : ∃ x, wc.heap.size = x := ⟨_, rfl⟩
      have hgw : w1.heap.size ≤ gl := by rw [← hgl]; exact HF.out.size
      obtain ⟨wc, hwc⟩ : ∃ x, wc.alloc (.cells #[.int .i64 0, .int .i64 2] 3) = x := ⟨_, rfl⟩
      rw [hgl, hwc]
      rw [hgl, hwc] at hba
      rw [hwc] at hfa
      replace HF := Lib.hid (HF.out.trans' hfa)
      have L := Lib.hid hba
      clear hba hfa hwc hgl
      refine hK.out _ _ ?_ (fun hHeld' => ?_)
      · show Sg151_0 _; rw [HSg151_0.out]; have hb := HF.out.heap HB1.out (fun f => f); exact ⟨cell_of_block hb rfl, cell_of_block hb rfl, cell_of_block hb rfl, cell_of_block hb rfl⟩
      clear hK K hHeld
      have hHeld := hHeld'
      clear hHeld'
      try simp only [Act.put, List.setIfInBounds_toArray, List.set_cons_zero, List.set_cons_succ]
      refine heldp_call 1 0 rfl (by kernel_rfl) (fun K hK => ?_)
      go_simp
      go_at_call 26
      refine (show Calls _ _ _ _ (fun e w' => e = .returned (.agg #[.int .i64 0, .int .i64 1, .int .i64 2, .slice none 0 0, .string ⟨#[107]⟩, .string ⟨#[]⟩]) ∧ Fr no wc w') from law_D 1 2 none 0 0 [] wc).mono ?_
      rintro e wc ⟨rfl, hfd⟩
      replace HF := Lib.hid (HF.out.trans' hfd)
      try replace L := Lib.hid (hfd.heap L.out (fun f => f))
      clear hfd
      refine hK.out _ _ ?_ (fun hHeld' => ?_)
      · show Sg151_0 _; rw [HSg151_0.out]; have hb := HF.out.heap HB1.out (fun f => f); exact ⟨cell_of_block hb rfl, cell_of_block hb rfl, cell_of_block hb rfl, cell_of_block hb rfl⟩
      clear hK K hHeld
      have hHeld := hHeld'
      clear hHeld'
      try simp only [Act.put, List.setIfInBounds_toArray, List.set_cons_zero, List.set_cons_succ]
      refine heldp_call 3 0 rfl (by kernel_rfl) (fun K hK => ?_)
      go_simp
      go_at_call 26
      refine (show Calls _ _ _ _ (fun e w' => e = .returned (.agg #[.int .i64 1, .int .i64 0, .int .i64 0, .slice (some ⟨gl, 0, none⟩) 2 2, .string ⟨#[107]⟩, .string ⟨#[]⟩]) ∧ Fr no wc w') from law_D 0 0 (some ⟨gl, 0, none⟩) 2 2 [0, 2] wc).mono ?_
      rintro e wc ⟨rfl, hfd⟩
      replace HF := Lib.hid (HF.out.trans' hfd)
      replace L := Lib.hid (hfd.heap L.out (fun f => f))
      clear hfd
      refine hK.out _ _ ?_ (fun hHeld' => ?_)
      · show Sg151_0 _; rw [HSg151_0.out]; have hb := HF.out.heap HB1.out (fun f => f); exact ⟨cell_of_block hb rfl, cell_of_block hb rfl, cell_of_block hb rfl, cell_of_block hb rfl⟩
      clear hK K hHeld
      have hHeld := hHeld'
      clear hHeld'
      try simp only [Act.put, List.setIfInBounds_toArray, List.set_cons_zero, List.set_cons_succ]
      refine heldp_call 4 0 rfl (by kernel_rfl) (fun K hK => ?_)
      go_simp
      have hfa : Fr no wc (wc.alloc (.cells #[.int .i64 0, .int .i64 1, .int .i64 2, .slice none 0 0, .string ⟨#[107]⟩, .string ⟨#[]⟩, .int .i64 1, .int .i64 0, .int .i64 0, .slice (some ⟨gl, 0, none⟩) 2 2, .string ⟨#[107]⟩, .string ⟨#[]⟩] 41)) := (Fr.refl no wc).alloc _
      have hba := World.alloc_heap_new wc (.cells #[.int .i64 0, .int .i64 1, .int .i64 2, .slice none 0 0, .string ⟨#[107]⟩, .string ⟨#[]⟩, .int .i64 1, .int .i64 0, .int .i64 0, .slice (some ⟨gl, 0, none⟩) 2 2, .string ⟨#[107]⟩, .string ⟨#[]⟩] 41)
      obtain ⟨gd, hgd⟩ : ∃ x, wc.heap.size = x := ⟨_, rfl⟩
      obtain ⟨wc, hwc⟩ : ∃ x, wc.alloc (.cells #[.int .i64 0, .int .i64 1, .int .i64 2, .slice none 0 0, .string ⟨#[107]⟩, .string ⟨#[]⟩, .int .i64 1, .int .i64 0, .int .i64 0, .slice (some ⟨gl, 0, none⟩) 2 2, .string ⟨#[107]⟩, .string ⟨#[]⟩] 41) = x := ⟨_, rfl⟩
      rw [hgd, hwc]
      rw [hgd, hwc] at hba
      rw [hwc] at hfa
      replace HF := Lib.hid (HF.out.trans' hfa)
      replace L := Lib.hid (hfa.heap L.out (fun f => f))
      have D := Lib.hid hba
      clear hba hfa hwc hgd
      refine hK.out _ _ ?_ (fun hHeld' => ?_)
      · show Sg151_0 _; rw [HSg151_0.out]; have hb := HF.out.heap HB1.out (fun f => f); exact ⟨cell_of_block hb rfl, cell_of_block hb rfl, cell_of_block hb rfl, cell_of_block hb rfl⟩
      clear hK K hHeld
      have hHeld := hHeld'
      clear hHeld'
      try simp only [Act.put, List.setIfInBounds_toArray, List.set_cons_zero, List.set_cons_succ]
      refine heldp_call 5 0 rfl (by kernel_rfl) (fun K hK => ?_)
      go_simp
      have hok0 : DrOk wc (k0 gl) := rd_blk L.out
      have hA : Calls Try.prog 17 #[.agg #[.int .i64 0, .int .i64 5, .slice none 0 0, .slice none 0 0], .slice (some ⟨gd, 0, none⟩) 2 2] wc (fun e w' => ∃ sv' tv' ov', e = .returned (.tuple #[.agg #[.int .i64 0, .int .i64 5, sv', tv'], ov']) ∧ AdR wc w' 0 5 2 ⟨5, [], [k12, k0 gl], []⟩ (.slice none 0 0) sv' tv' ov') := tAdmit 0 5 (.slice none 0 0) (.slice none 0 0) (.slice (some ⟨gd, 0, none⟩) 2 2) [] [] [k12, k0 gl] wc (rd_zero _ _) (fun x h => by simp at h) (rd_zero _ _) (rd_blk D.out) (fun d hd => by simp at hd; rcases hd with rfl | rfl; exact k12_ok _; exact hok0) (fun d hd => by simp at hd; rcases hd with rfl | rfl <;> simp [k12, k0, mkDr]) (by simp) (by decide) (by decide) (by decide)
      go_at_call 17
      refine hA.mono ?_
      rintro e wd ⟨sv', tv', ov', rfl, hR⟩
      obtain ⟨_, so, sc, rfl, _, hsc1, hsc2, _⟩ := (show Rd wd 1 sv' 0 [] from hR.seen)
      have HscC : Hid (sc ≤ maxLen ∧ (so = none → sc = 0)) := Lib.hid ⟨hsc1, hsc2⟩
      clear hsc1 hsc2
      have hlt : Rd wd 6 tv' 2 (drCells [k12, k0 gl]) := hR.late
      obtain ⟨lo, lc, rfl, hl2, hlc⟩ := hlt.cap
      obtain ⟨oo, oc, rfl, _, hoc⟩ := (show Rd wd 7 ov' 0 [] from hR.out).cap
      have hwb : w.heap.size < w1.heap.size := (Array.getElem?_eq_some_iff.1 HB1.out).1
      have Hwb := Lib.hid hwb
      have Hto := Lib.hid (fun g (hg : (Value.slice lo 2 lc).ownBlock = some g) => Nat.lt_of_lt_of_le (Nat.lt_of_lt_of_le hwb HF.out.size) (hR.tvo g hg))
      have Hlt := Lib.hid hlt
      replace HF := Lib.hid (HF.out.trans' hR.fr)
      replace L := Lib.hid (hR.fr.heap L.out (fun f => f))
      clear hR hA hok0 hlt D hwb
      refine hK.out _ _ ?_ (fun hHeld' => ?_)
      · show Sg151_0 _; rw [HSg151_0.out]; have hb := HF.out.heap HB1.out (fun f => f); exact ⟨cell_of_block hb rfl, cell_of_block hb rfl, cell_of_block hb rfl, cell_of_block hb rfl⟩
      clear hK K hHeld
      have hHeld := hHeld'
      clear hHeld'
      try simp only [Act.put, List.setIfInBounds_toArray, List.set_cons_zero, List.set_cons_succ]
      refine heldp_take (v := ?_) 6 0 rfl (by kernel_rfl) (.inl ⟨by rfl, ?_⟩) hHeld ?_
      rotate_left
      · intro w hSw; replace hSw : Sg151_0 w := hSw; rw [HSg151_0.out] at hSw; (try dsimp only at hSw); first | (go_simp; done) | (go_simp; with_reducible rfl)
      try simp only [Act.put, List.setIfInBounds_toArray, List.set_cons_zero, List.set_cons_succ]
      refine heldp_take (v := ?_) 7 0 rfl (by kernel_rfl) (.inl ⟨by rfl, ?_⟩) hHeld ?_
      rotate_left
      · intro w hSw; replace hSw : Sg151_0 w := hSw; rw [HSg151_0.out] at hSw; (try dsimp only at hSw); first | (go_simp; done) | (go_simp; with_reducible rfl)
      try simp only [Act.put, List.setIfInBounds_toArray, List.set_cons_zero, List.set_cons_succ]
      refine heldp_free (v := ?_) 8 0 rfl (by kernel_rfl) (.inl ⟨by rfl, ?_⟩) hHeld ?_
      rotate_left
      · intro w hSw; clear hSw; first | (go_simp; done) | (go_simp; with_reducible rfl)
      try simp only [Act.put, List.setIfInBounds_toArray, List.set_cons_zero, List.set_cons_succ]
      refine heldp_call 9 1 rfl (by kernel_rfl) (fun K hK => ?_)
      rw [if_pos (by rfl)]
      obtain ⟨x1, x2, x3, x4, q1, q2, q3, q4, c1, c2, c3, c4, z1, z2, z3, z4, hb4, hf4⟩ := set4 (HF.out.heap HB1.out (fun f => f)) (.int .i64 0) (.int .i64 5) (.slice so 0 sc) (.slice lo 2 lc)
      have T := Lib.hid hb4
      have hbL : w.heap.size ≠ gl := by have := Hwb.out; omega
      replace L := Lib.hid (hf4.heap L.out (fun e => hbL e.symm))
      replace Hlt := Lib.hid (Hlt.out.fr hf4 (fun g hg _ e => by have := Hto.out g hg; omega))
      have HG : Hid (Fr no w x4) := Lib.hid ((HF1.out.trans' HF.out).trans hf4 (fun i hi e => by omega))
      clear hb4 hf4
      go_simp
      refine hK.out _ _ ?_ (fun hHeld' => ?_)
      · show Sg151_1 _; rw [HSg151_1.out]; trivial
      clear hK K hHeld
      have hHeld := hHeld'
      clear hHeld'
      try simp only [Act.put, List.setIfInBounds_toArray, List.set_cons_zero, List.set_cons_succ]
      refine heldp_take (v := ?_) 10 1 rfl (by kernel_rfl) (.inl ⟨by rfl, ?_⟩) hHeld ?_
      rotate_left
      · intro w hSw; replace hSw : Sg151_1 w := hSw; rw [HSg151_1.out] at hSw; (try dsimp only at hSw); first | (go_simp; done) | (go_simp; with_reducible rfl)
      try simp only [Act.put, List.setIfInBounds_toArray, List.set_cons_zero, List.set_cons_succ]
      refine heldp_done (by kernel_rfl) ?_
      try clear hHeld
      clear HSg151_0
      try clear Sg151_0
      clear HSg151_1
      try clear Sg151_1
      clear q1 q2 q3 q4 c1 c2 c3 c4 z1 z2 z3 z4
      go_wp2
      go_meet
      exact ⟨so, sc, lo, lc, oo, oc, gl, rfl, T, hbL, L, Hlt, HG, HscC, hoc, hl2, hlc⟩
  case rest =>
    obtain ⟨so, sc, lo, lc, oo, oc, gl, rfl, T, hbL, L, Hlt, HG, HscC, hoc, hl2, hlc⟩ := hcut
    clear HB1 HF1
    have t3 := cell_of_block (j := 3) T.out rfl
    go_wp2_with fail
    clear t3
    generalize wc = w1 at *
    obtain ⟨Sg436_0, HSg436_0⟩ : ∃ S : World → Prop, Hid (S = (fun w' => w'.cell? ⟨w.heap.size, 0, none⟩ = some (.int .i64 0) ∧ w'.cell? ⟨w.heap.size, 1, none⟩ = some (.int .i64 5) ∧ w'.cell? ⟨w.heap.size, 2, none⟩ = some (.slice so 0 sc) ∧ w'.cell? ⟨w.heap.size, 3, none⟩ = some (.slice lo 2 lc))) := ⟨_, Lib.hid rfl⟩
    obtain ⟨Sg436_1, HSg436_1⟩ : ∃ S : World → Prop, Hid (S = (fun _ => True)) := ⟨_, Lib.hid rfl⟩
    refine wp_heldp [9] (pickS [Sg436_0, Sg436_1]) (by kernel_rfl) ?_ (fun hHeld => ?_)
    · show Sg436_0 _; rw [HSg436_0.out]; have hb : w1.drew.heap[w.heap.size]? = _ := T.out; exact ⟨cell_of_block hb rfl, cell_of_block hb rfl, cell_of_block hb rfl, cell_of_block hb rfl⟩
    obtain ⟨wc, hwc⟩ : ∃ x, w1.drew = x := ⟨_, rfl⟩; rw [hwc] at hHeld; rw [hwc]; have HF : Hid (Fr no w1 wc) := (by rw [← hwc]; exact Lib.hid ((Fr.refl no w1).drewN 1)); clear hwc
    refine heldp_take (v := ?_) 0 0 rfl (by kernel_rfl) (.inl ⟨by rfl, ?_⟩) hHeld ?_
    rotate_left
    · intro w hSw; replace hSw : Sg436_0 w := hSw; rw [HSg436_0.out] at hSw; (try dsimp only at hSw); first | (go_simp; done) | (go_simp; with_reducible rfl)
    try simp only [Act.put, List.setIfInBounds_toArray, List.set_cons_zero, List.set_cons_succ]
    refine heldp_call 1 0 rfl (by kernel_rfl) (fun K hK => ?_)
    go_simp
    go_at_call 26
    refine (show Calls _ _ _ _ (fun e w' => e = .returned (.agg #[.int .i64 0, .int .i64 1, .int .i64 1, .slice none 0 0, .string ⟨#[107]⟩, .string ⟨#[]⟩]) ∧ Fr no wc w') from law_D 1 1 none 0 0 [] wc).mono ?_
    rintro e wc ⟨rfl, hfd⟩
    replace HF := Lib.hid (HF.out.trans' hfd)
    clear hfd
    refine hK.out _ _ ?_ (fun hHeld' => ?_)
    · show Sg436_0 _; rw [HSg436_0.out]; have hb := HF.out.heap T.out (fun f => f); exact ⟨cell_of_block hb rfl, cell_of_block hb rfl, cell_of_block hb rfl, cell_of_block hb rfl⟩
    clear hK K hHeld
    have hHeld := hHeld'
    clear hHeld'
    try simp only [Act.put, List.setIfInBounds_toArray, List.set_cons_zero, List.set_cons_succ]
    refine heldp_call 2 0 rfl (by kernel_rfl) (fun K hK => ?_)
    go_simp
    go_at_call 26
    refine (show Calls _ _ _ _ (fun e w' => e = .returned (.agg #[.int .i64 0, .int .i64 1, .int .i64 2, .slice none 0 0, .string ⟨#[107]⟩, .string ⟨#[]⟩]) ∧ Fr no wc w') from law_D 1 2 none 0 0 [] wc).mono ?_
    rintro e wc ⟨rfl, hfd⟩
    replace HF := Lib.hid (HF.out.trans' hfd)
    clear hfd
    refine hK.out _ _ ?_ (fun hHeld' => ?_)
    · show Sg436_0 _; rw [HSg436_0.out]; have hb := HF.out.heap T.out (fun f => f); exact ⟨cell_of_block hb rfl, cell_of_block hb rfl, cell_of_block hb rfl, cell_of_block hb rfl⟩
    clear hK K hHeld
    have hHeld := hHeld'
    clear hHeld'
    try simp only [Act.put, List.setIfInBounds_toArray, List.set_cons_zero, List.set_cons_succ]
    refine heldp_call 3 0 rfl (by kernel_rfl) (fun K hK => ?_)
    go_simp
    go_at_call 26
    refine (show Calls _ _ _ _ (fun e w' => e = .returned (.agg #[.int .i64 0, .int .i64 1, .int .i64 1, .slice none 0 0, .string ⟨#[107]⟩, .string ⟨#[]⟩]) ∧ Fr no wc w') from law_D 1 1 none 0 0 [] wc).mono ?_
    rintro e wc ⟨rfl, hfd⟩
    replace HF := Lib.hid (HF.out.trans' hfd)
    clear hfd
    refine hK.out _ _ ?_ (fun hHeld' => ?_)
    · show Sg436_0 _; rw [HSg436_0.out]; have hb := HF.out.heap T.out (fun f => f); exact ⟨cell_of_block hb rfl, cell_of_block hb rfl, cell_of_block hb rfl, cell_of_block hb rfl⟩
    clear hK K hHeld
    have hHeld := hHeld'
    clear hHeld'
    try simp only [Act.put, List.setIfInBounds_toArray, List.set_cons_zero, List.set_cons_succ]
    refine heldp_call 4 0 rfl (by kernel_rfl) (fun K hK => ?_)
    go_simp
    have hfa : Fr no wc (wc.alloc (.cells #[.int .i64 0, .int .i64 1, .int .i64 1, .slice none 0 0, .string ⟨#[107]⟩, .string ⟨#[]⟩, .int .i64 0, .int .i64 1, .int .i64 2, .slice none 0 0, .string ⟨#[107]⟩, .string ⟨#[]⟩, .int .i64 0, .int .i64 1, .int .i64 1, .slice none 0 0, .string ⟨#[107]⟩, .string ⟨#[]⟩] 41)) := (Fr.refl no wc).alloc _
    have hba := World.alloc_heap_new wc (.cells #[.int .i64 0, .int .i64 1, .int .i64 1, .slice none 0 0, .string ⟨#[107]⟩, .string ⟨#[]⟩, .int .i64 0, .int .i64 1, .int .i64 2, .slice none 0 0, .string ⟨#[107]⟩, .string ⟨#[]⟩, .int .i64 0, .int .i64 1, .int .i64 1, .slice none 0 0, .string ⟨#[107]⟩, .string ⟨#[]⟩] 41)
    obtain ⟨gd, hgd⟩ : ∃ x, wc.heap.size = x := ⟨_, rfl⟩
    obtain ⟨wc, hwc⟩ : ∃ x, wc.alloc (.cells #[.int .i64 0, .int .i64 1, .int .i64 1, .slice none 0 0, .string ⟨#[107]⟩, .string ⟨#[]⟩, .int .i64 0, .int .i64 1, .int .i64 2, .slice none 0 0, .string ⟨#[107]⟩, .string ⟨#[]⟩, .int .i64 0, .int .i64 1, .int .i64 1, .slice none 0 0, .string ⟨#[107]⟩, .string ⟨#[]⟩] 41) = x := ⟨_, rfl⟩
    rw [hgd, hwc]
    rw [hgd, hwc] at hba
    rw [hwc] at hfa
    replace HF := Lib.hid (HF.out.trans' hfa)
    have D := Lib.hid hba
    clear hba hfa hwc hgd
    refine hK.out _ _ ?_ (fun hHeld' => ?_)
    · show Sg436_0 _; rw [HSg436_0.out]; have hb := HF.out.heap T.out (fun f => f); exact ⟨cell_of_block hb rfl, cell_of_block hb rfl, cell_of_block hb rfl, cell_of_block hb rfl⟩
    clear hK K hHeld
    have hHeld := hHeld'
    clear hHeld'
    try simp only [Act.put, List.setIfInBounds_toArray, List.set_cons_zero, List.set_cons_succ]
    refine heldp_call 5 0 rfl (by kernel_rfl) (fun K hK => ?_)
    go_simp
    have hok0 : DrOk wc (k0 gl) := rd_blk (HF.out.heap L.out (fun f => f))
    have hA : Calls Try.prog 17 #[.agg #[.int .i64 0, .int .i64 5, .slice so 0 sc, .slice lo 2 lc], .slice (some ⟨gd, 0, none⟩) 3 3] wc (fun e w' => ∃ sv' tv' ov', e = .returned (.tuple #[.agg #[.int .i64 0, .int .i64 8, sv', tv'], ov']) ∧ AdR wc w' 0 5 5 ⟨8, [1, 2], [k12, k11], [(5, k11), (6, k12), (7, { k0 gl with q := 1 })]⟩ (.slice so 0 sc) sv' tv' ov') := tAdmit 0 5 (.slice so 0 sc) (.slice lo 2 lc) (.slice (some ⟨gd, 0, none⟩) 3 3) [] [k12, k0 gl] [k11, k12, k11] wc (rd_none _ _ _ _ HscC.out.1 HscC.out.2) (fun x h => by simp at h) (Hlt.out.fr HF.out (fun _ _ _ f => f)) (rd_blk D.out) (fun d hd => by simp only [List.mem_append, List.mem_cons, List.not_mem_nil, or_false] at hd; rcases hd with (rfl | rfl) | rfl | rfl | rfl; exact k12_ok _; exact hok0; exact k11_ok _; exact k12_ok _; exact k11_ok _) (fun d hd => by simp only [List.mem_append, List.mem_cons, List.not_mem_nil, or_false] at hd; rcases hd with (rfl | rfl) | rfl | rfl | rfl <;> simp [k12, k11, k0, mkDr]) (by simp) (by decide) (by decide) (by decide)
    go_at_call 17
    refine hA.mono ?_
    rintro e wd ⟨sv', tv', ov', rfl, hR⟩
    have hse : IntsAt wd sv' [1, 2] := hR.seen
    obtain ⟨so2, sc2, rfl, hs2c, hs2m⟩ := hse.cap
    obtain ⟨to2, tc2, rfl, _, htc2⟩ := (show Rd wd 6 tv' 0 [] from hR.late).cap
    have hov : Rd wd 7 ov' 3 (slCells [(5, k11), (6, k12), (7, { k0 gl with q := 1 })]) := hR.out
    have hwb : w.heap.size < w1.heap.size := (Array.getElem?_eq_some_iff.1 T.out).1
    have Hwb := Lib.hid hwb
    have Hoo := Lib.hid (fun g (hg : ov'.ownBlock = some g) => Nat.lt_of_lt_of_le (Nat.lt_of_lt_of_le hwb HF.out.size) (hR.ovo g hg))
    have Hso : Hid (∀ g, (Value.slice so2 2 sc2).ownBlock = some g → w.heap.size < g) := Lib.hid (fun g hg => (hR.svo.elim (fun e => by injection e with _ e; simp at e) (fun h => Nat.lt_of_lt_of_le (Nat.lt_of_lt_of_le hwb HF.out.size) (h g hg))))
    have Hse := Lib.hid hse
    have Hov := Lib.hid hov
    replace HF := Lib.hid (HF.out.trans' hR.fr)
    clear hR hA hok0 hov hse D hwb
    refine hK.out _ _ ?_ (fun hHeld' => ?_)
    · show Sg436_0 _; rw [HSg436_0.out]; have hb := HF.out.heap T.out (fun f => f); exact ⟨cell_of_block hb rfl, cell_of_block hb rfl, cell_of_block hb rfl, cell_of_block hb rfl⟩
    clear hK K hHeld
    have hHeld := hHeld'
    clear hHeld'
    try simp only [Act.put, List.setIfInBounds_toArray, List.set_cons_zero, List.set_cons_succ]
    refine heldp_take (v := ?_) 6 0 rfl (by kernel_rfl) (.inl ⟨by rfl, ?_⟩) hHeld ?_
    rotate_left
    · intro w hSw; replace hSw : Sg436_0 w := hSw; rw [HSg436_0.out] at hSw; (try dsimp only at hSw); first | (go_simp; done) | (go_simp; with_reducible rfl)
    try simp only [Act.put, List.setIfInBounds_toArray, List.set_cons_zero, List.set_cons_succ]
    refine heldp_take (v := ?_) 7 0 rfl (by kernel_rfl) (.inl ⟨by rfl, ?_⟩) hHeld ?_
    rotate_left
    · intro w hSw; replace hSw : Sg436_0 w := hSw; rw [HSg436_0.out] at hSw; (try dsimp only at hSw); first | (go_simp; done) | (go_simp; with_reducible rfl)
    try simp only [Act.put, List.setIfInBounds_toArray, List.set_cons_zero, List.set_cons_succ]
    refine heldp_free (v := ?_) 8 0 rfl (by kernel_rfl) (.inl ⟨by rfl, ?_⟩) hHeld ?_
    rotate_left
    · intro w hSw; clear hSw; first | (go_simp; done) | (go_simp; with_reducible rfl)
    try simp only [Act.put, List.setIfInBounds_toArray, List.set_cons_zero, List.set_cons_succ]
    refine heldp_call 9 1 rfl (by kernel_rfl) (fun K hK => ?_)
    rw [if_pos (by rfl)]
    obtain ⟨x1, x2, x3, x4, q1, q2, q3, q4, c1, c2, c3, c4, z1, z2, z3, z4, hb4, hf4⟩ := set4 (HF.out.heap T.out (fun f => f)) (.int .i64 0) (.int .i64 8) (.slice so2 2 sc2) (.slice to2 0 tc2)
    have T2 := Lib.hid hb4
    replace Hse : Hid (Rd x4 1 (.slice so2 2 sc2) 2 [.int .i64 1, .int .i64 2]) := Lib.hid (Rd.fr Hse.out hf4 (fun g hg _ e => by have := Hso.out g hg; omega))
    replace Hov := Lib.hid (Hov.out.fr hf4 (fun g hg _ e => by have := Hoo.out g hg; omega))
    replace HG : Hid (Fr no w x4) := Lib.hid ((HG.out.trans' HF.out).trans hf4 (fun i hi e => by omega))
    clear hb4 hf4
    go_simp
    refine hK.out _ _ ?_ (fun hHeld' => ?_)
    · show Sg436_1 _; rw [HSg436_1.out]; trivial
    clear hK K hHeld
    have hHeld := hHeld'
    clear hHeld'
    try simp only [Act.put, List.setIfInBounds_toArray, List.set_cons_zero, List.set_cons_succ]
    refine heldp_take (v := ?_) 10 1 rfl (by kernel_rfl) (.inl ⟨by rfl, ?_⟩) hHeld ?_
    rotate_left
    · intro w hSw; replace hSw : Sg436_1 w := hSw; rw [HSg436_1.out] at hSw; (try dsimp only at hSw); first | (go_simp; done) | (go_simp; with_reducible rfl)
    try simp only [Act.put, List.setIfInBounds_toArray, List.set_cons_zero, List.set_cons_succ]
    refine heldp_done (by kernel_rfl) ?_
    try clear hHeld
    clear HSg436_0
    try clear Sg436_0
    clear HSg436_1
    try clear Sg436_1
    clear q1 q2 q3 q4 c1 c2 c3 c4 z1 z2 z3 z4 T Hlt L HF
    obtain ⟨go, offo, oc3, he3, hoc3, hocm, hcell⟩ := Hov.out.form (by decide)
    cases he3
    have b0 : x4.cell? ⟨go, offo, none⟩ = some (.int .i64 5) := hcell 0 _ rfl
    have b1 : x4.cell? ⟨go, offo + 10, none⟩ = some (.int .i64 2) := hcell 10 _ rfl
    have b2 : x4.cell? ⟨go, offo + 16, none⟩ = some (.int .i64 0) := hcell 16 _ rfl
    have b3 : x4.cell? ⟨go, offo + 17, none⟩ = some (.int .i64 1) := hcell 17 _ rfl
    have b4 : x4.cell? ⟨go, offo + 15, none⟩ = some (.int .i64 1) := hcell 15 _ rfl
    clear hcell
    go_upto_region 6 with (fail)
    obtain ⟨Sg574_0, HSg574_0⟩ : ∃ S : World → Prop, Hid (S = (fun w' => w'.cell? ⟨w.heap.size, 0, none⟩ = some (.int .i64 0) ∧ w'.cell? ⟨w.heap.size, 1, none⟩ = some (.int .i64 8) ∧ w'.cell? ⟨w.heap.size, 2, none⟩ = some (.slice so2 2 sc2) ∧ w'.cell? ⟨w.heap.size, 3, none⟩ = some (.slice to2 0 tc2) ∧ w'.cell? ⟨go, offo, none⟩ = some (.int .i64 5) ∧ w'.cell? ⟨go, offo + 10, none⟩ = some (.int .i64 2) ∧ w'.cell? ⟨go, offo + 16, none⟩ = some (.int .i64 0) ∧ w'.cell? ⟨go, offo + 17, none⟩ = some (.int .i64 1) ∧ w'.cell? ⟨go, offo + 15, none⟩ = some (.int .i64 1))) := ⟨_, Lib.hid rfl⟩
    refine wp_heldp [] (pickS [Sg574_0]) (by kernel_rfl) ?_ (fun hHeld => ?_)
    · show Sg574_0 _; rw [HSg574_0.out]; have hb : x4.drew.heap[w.heap.size]? = _ := T2.out; exact ⟨cell_of_block hb rfl, cell_of_block hb rfl, cell_of_block hb rfl, cell_of_block hb rfl, b0, b1, b2, b3, b4⟩
    obtain ⟨wc, hwc⟩ : ∃ x, x4.drew = x := ⟨_, rfl⟩; rw [hwc] at hHeld; rw [hwc]; have HF : Hid (Fr no x4 wc) := (by rw [← hwc]; exact Lib.hid ((Fr.refl no x4).drewN 1)); clear hwc
    refine heldp_take (v := ?_) 0 0 rfl (by kernel_rfl) (.inl ⟨by rfl, ?_⟩) hHeld ?_
    rotate_left
    · intro w hSw; replace hSw : Sg574_0 w := hSw; rw [HSg574_0.out] at hSw; (try dsimp only at hSw); first | (go_simp; done) | (go_simp; with_reducible rfl)
    try simp only [Act.put, List.setIfInBounds_toArray, List.set_cons_zero, List.set_cons_succ]
    refine heldp_take (v := ?_) 1 0 rfl (by kernel_rfl) (.inl ⟨by rfl, ?_⟩) hHeld ?_
    rotate_left
    · intro w hSw; replace hSw : Sg574_0 w := hSw; rw [HSg574_0.out] at hSw; (try dsimp only at hSw); first | (go_simp; done) | (go_simp; with_reducible rfl)
    try simp only [Act.put, List.setIfInBounds_toArray, List.set_cons_zero, List.set_cons_succ]
    refine heldp_take (v := ?_) 2 0 rfl (by kernel_rfl) (.inl ⟨by rfl, ?_⟩) hHeld ?_
    rotate_left
    · intro w hSw; replace hSw : Sg574_0 w := hSw; rw [HSg574_0.out] at hSw; (try dsimp only at hSw); first | (go_simp; done) | (go_simp; with_reducible rfl)
    try simp only [Act.put, List.setIfInBounds_toArray, List.set_cons_zero, List.set_cons_succ]
    refine heldp_take (v := ?_) 3 0 rfl (by kernel_rfl) (.inl ⟨by rfl, ?_⟩) hHeld ?_
    rotate_left
    · intro w hSw; replace hSw : Sg574_0 w := hSw; rw [HSg574_0.out] at hSw; (try dsimp only at hSw); first | (go_simp; done) | (go_simp; with_reducible rfl)
    try simp only [Act.put, List.setIfInBounds_toArray, List.set_cons_zero, List.set_cons_succ]
    refine heldp_take (v := ?_) 4 0 rfl (by kernel_rfl) (.inl ⟨by rfl, ?_⟩) hHeld ?_
    rotate_left
    · intro w hSw; replace hSw : Sg574_0 w := hSw; rw [HSg574_0.out] at hSw; (try dsimp only at hSw); first | (go_simp; done) | (go_simp; with_reducible rfl)
    try simp only [Act.put, List.setIfInBounds_toArray, List.set_cons_zero, List.set_cons_succ]
    refine heldp_take (v := ?_) 5 0 rfl (by kernel_rfl) (.inl ⟨by rfl, ?_⟩) hHeld ?_
    rotate_left
    · intro w hSw; replace hSw : Sg574_0 w := hSw; rw [HSg574_0.out] at hSw; (try dsimp only at hSw); first | (go_simp; done) | (go_simp; with_reducible rfl)
    try simp only [Act.put, List.setIfInBounds_toArray, List.set_cons_zero, List.set_cons_succ]
    refine heldp_take (v := ?_) 6 0 rfl (by kernel_rfl) (.inl ⟨by rfl, ?_⟩) hHeld ?_
    rotate_left
    · intro w hSw; replace hSw : Sg574_0 w := hSw; rw [HSg574_0.out] at hSw; (try dsimp only at hSw); first | (go_simp; done) | (go_simp; with_reducible rfl)
    try simp only [Act.put, List.setIfInBounds_toArray, List.set_cons_zero, List.set_cons_succ]
    refine heldp_take (v := ?_) 7 0 rfl (by kernel_rfl) (.inl ⟨by rfl, ?_⟩) hHeld ?_
    rotate_left
    · intro w hSw; replace hSw : Sg574_0 w := hSw; rw [HSg574_0.out] at hSw; (try dsimp only at hSw); first | (go_simp; done) | (go_simp; with_reducible rfl)
    try simp only [Act.put, List.setIfInBounds_toArray, List.set_cons_zero, List.set_cons_succ]
    refine heldp_take (v := ?_) 8 0 rfl (by kernel_rfl) (.inl ⟨by rfl, ?_⟩) hHeld ?_
    rotate_left
    · intro w hSw; replace hSw : Sg574_0 w := hSw; rw [HSg574_0.out] at hSw; (try dsimp only at hSw); first | (go_simp; done) | (go_simp; with_reducible rfl)
    try simp only [Act.put, List.setIfInBounds_toArray, List.set_cons_zero, List.set_cons_succ]
    refine heldp_take (v := ?_) 9 0 rfl (by kernel_rfl) (.inl ⟨by rfl, ?_⟩) hHeld ?_
    rotate_left
    · intro w hSw; replace hSw : Sg574_0 w := hSw; rw [HSg574_0.out] at hSw; (try dsimp only at hSw); first | (go_simp; done) | (go_simp; with_reducible rfl)
    try simp only [Act.put, List.setIfInBounds_toArray, List.set_cons_zero, List.set_cons_succ]
    refine heldp_take (v := ?_) 10 0 rfl (by kernel_rfl) (.inl ⟨by rfl, ?_⟩) hHeld ?_
    rotate_left
    · intro w hSw; replace hSw : Sg574_0 w := hSw; rw [HSg574_0.out] at hSw; (try dsimp only at hSw); first | (go_simp; done) | (go_simp; with_reducible rfl)
    try simp only [Act.put, List.setIfInBounds_toArray, List.set_cons_zero, List.set_cons_succ]
    refine heldp_take (v := ?_) 11 0 rfl (by kernel_rfl) (.inl ⟨by rfl, ?_⟩) hHeld ?_
    rotate_left
    · intro w hSw; replace hSw : Sg574_0 w := hSw; rw [HSg574_0.out] at hSw; (try dsimp only at hSw); first | (go_simp; done) | (go_simp; with_reducible rfl)
    try simp only [Act.put, List.setIfInBounds_toArray, List.set_cons_zero, List.set_cons_succ]
    refine heldp_take (v := ?_) 12 0 rfl (by kernel_rfl) (.inl ⟨by rfl, ?_⟩) hHeld ?_
    rotate_left
    · intro w hSw; replace hSw : Sg574_0 w := hSw; rw [HSg574_0.out] at hSw; (try dsimp only at hSw); first | (go_simp; done) | (go_simp; with_reducible rfl)
    try simp only [Act.put, List.setIfInBounds_toArray, List.set_cons_zero, List.set_cons_succ]
    refine heldp_take (v := ?_) 13 0 rfl (by kernel_rfl) (.inl ⟨by rfl, ?_⟩) hHeld ?_
    rotate_left
    · intro w hSw; replace hSw : Sg574_0 w := hSw; rw [HSg574_0.out] at hSw; (try dsimp only at hSw); first | (go_simp; done) | (go_simp; with_reducible rfl)
    try simp only [Act.put, List.setIfInBounds_toArray, List.set_cons_zero, List.set_cons_succ]
    refine heldp_take (v := ?_) 14 0 rfl (by kernel_rfl) (.inl ⟨by rfl, ?_⟩) hHeld ?_
    rotate_left
    · intro w hSw; replace hSw : Sg574_0 w := hSw; rw [HSg574_0.out] at hSw; (try dsimp only at hSw); first | (go_simp; done) | (go_simp; with_reducible rfl)
    try simp only [Act.put, List.setIfInBounds_toArray, List.set_cons_zero, List.set_cons_succ]
    refine heldp_take (v := ?_) 15 0 rfl (by kernel_rfl) (.inl ⟨by rfl, ?_⟩) hHeld ?_
    rotate_left
    · intro w hSw; replace hSw : Sg574_0 w := hSw; rw [HSg574_0.out] at hSw; (try dsimp only at hSw); first | (go_simp; done) | (go_simp; with_reducible rfl)
    try simp only [Act.put, List.setIfInBounds_toArray, List.set_cons_zero, List.set_cons_succ]
    refine heldp_take (v := ?_) 16 0 rfl (by kernel_rfl) (.inl ⟨by rfl, ?_⟩) hHeld ?_
    rotate_left
    · intro w hSw; replace hSw : Sg574_0 w := hSw; rw [HSg574_0.out] at hSw; (try dsimp only at hSw); first | (go_simp; done) | (go_simp; with_reducible rfl)
    try simp only [Act.put, List.setIfInBounds_toArray, List.set_cons_zero, List.set_cons_succ]
    refine heldp_take (v := ?_) 17 0 rfl (by kernel_rfl) (.inl ⟨by rfl, ?_⟩) hHeld ?_
    rotate_left
    · intro w hSw; replace hSw : Sg574_0 w := hSw; rw [HSg574_0.out] at hSw; (try dsimp only at hSw); first | (go_simp; done) | (go_simp; with_reducible rfl)
    try simp only [Act.put, List.setIfInBounds_toArray, List.set_cons_zero, List.set_cons_succ]
    refine heldp_take (v := ?_) 18 0 rfl (by kernel_rfl) (.inl ⟨by rfl, ?_⟩) hHeld ?_
    rotate_left
    · intro w hSw; replace hSw : Sg574_0 w := hSw; rw [HSg574_0.out] at hSw; (try dsimp only at hSw); first | (go_simp; done) | (go_simp; with_reducible rfl)
    try simp only [Act.put, List.setIfInBounds_toArray, List.set_cons_zero, List.set_cons_succ]
    refine heldp_take (v := ?_) 19 0 rfl (by kernel_rfl) (.inl ⟨by rfl, ?_⟩) hHeld ?_
    rotate_left
    · intro w hSw; replace hSw : Sg574_0 w := hSw; rw [HSg574_0.out] at hSw; (try dsimp only at hSw); first | (go_simp; done) | (go_simp; with_reducible rfl)
    try simp only [Act.put, List.setIfInBounds_toArray, List.set_cons_zero, List.set_cons_succ]
    refine heldp_take (v := ?_) 20 0 rfl (by kernel_rfl) (.inl ⟨by rfl, ?_⟩) hHeld ?_
    rotate_left
    · intro w hSw; replace hSw : Sg574_0 w := hSw; rw [HSg574_0.out] at hSw; (try dsimp only at hSw); first | (go_simp; done) | (go_simp; with_reducible rfl)
    try simp only [Act.put, List.setIfInBounds_toArray, List.set_cons_zero, List.set_cons_succ]
    refine heldp_take (v := ?_) 21 0 rfl (by kernel_rfl) (.inl ⟨by rfl, ?_⟩) hHeld ?_
    rotate_left
    · intro w hSw; replace hSw : Sg574_0 w := hSw; rw [HSg574_0.out] at hSw; (try dsimp only at hSw); first | (go_simp; done) | (go_simp; with_reducible rfl)
    try simp only [Act.put, List.setIfInBounds_toArray, List.set_cons_zero, List.set_cons_succ]
    refine heldp_take (v := ?_) 22 0 rfl (by kernel_rfl) (.inl ⟨by rfl, ?_⟩) hHeld ?_
    rotate_left
    · intro w hSw; replace hSw : Sg574_0 w := hSw; rw [HSg574_0.out] at hSw; (try dsimp only at hSw); first | (go_simp; done) | (go_simp; with_reducible rfl)
    try simp only [Act.put, List.setIfInBounds_toArray, List.set_cons_zero, List.set_cons_succ]
    refine heldp_take (v := ?_) 23 0 rfl (by kernel_rfl) (.inl ⟨by rfl, ?_⟩) hHeld ?_
    rotate_left
    · intro w hSw; replace hSw : Sg574_0 w := hSw; rw [HSg574_0.out] at hSw; (try dsimp only at hSw); first | (go_simp; done) | (go_simp; with_reducible rfl)
    try simp only [Act.put, List.setIfInBounds_toArray, List.set_cons_zero, List.set_cons_succ]
    refine heldp_take (v := ?_) 24 0 rfl (by kernel_rfl) (.inl ⟨by rfl, ?_⟩) hHeld ?_
    rotate_left
    · intro w hSw; replace hSw : Sg574_0 w := hSw; rw [HSg574_0.out] at hSw; (try dsimp only at hSw); first | (go_simp; done) | (go_simp; with_reducible rfl)
    try simp only [Act.put, List.setIfInBounds_toArray, List.set_cons_zero, List.set_cons_succ]
    refine heldp_take (v := ?_) 25 0 rfl (by kernel_rfl) (.inl ⟨by rfl, ?_⟩) hHeld ?_
    rotate_left
    · intro w hSw; replace hSw : Sg574_0 w := hSw; rw [HSg574_0.out] at hSw; (try dsimp only at hSw); first | (go_simp; done) | (go_simp; with_reducible rfl)
    try simp only [Act.put, List.setIfInBounds_toArray, List.set_cons_zero, List.set_cons_succ]
    refine heldp_take (v := ?_) 26 0 rfl (by kernel_rfl) (.inl ⟨by rfl, ?_⟩) hHeld ?_
    rotate_left
    · intro w hSw; replace hSw : Sg574_0 w := hSw; rw [HSg574_0.out] at hSw; (try dsimp only at hSw); first | (go_simp; done) | (go_simp; with_reducible rfl)
    try simp only [Act.put, List.setIfInBounds_toArray, List.set_cons_zero, List.set_cons_succ]
    refine heldp_take (v := ?_) 27 0 rfl (by kernel_rfl) (.inl ⟨by rfl, ?_⟩) hHeld ?_
    rotate_left
    · intro w hSw; replace hSw : Sg574_0 w := hSw; rw [HSg574_0.out] at hSw; (try dsimp only at hSw); first | (go_simp; done) | (go_simp; with_reducible rfl)
    try simp only [Act.put, List.setIfInBounds_toArray, List.set_cons_zero, List.set_cons_succ]
    refine heldp_take (v := ?_) 28 0 rfl (by kernel_rfl) (.inl ⟨by rfl, ?_⟩) hHeld ?_
    rotate_left
    · intro w hSw; replace hSw : Sg574_0 w := hSw; rw [HSg574_0.out] at hSw; (try dsimp only at hSw); first | (go_simp; done) | (go_simp; with_reducible rfl)
    try simp only [Act.put, List.setIfInBounds_toArray, List.set_cons_zero, List.set_cons_succ]
    refine heldp_take (v := ?_) 29 0 rfl (by kernel_rfl) (.inl ⟨by rfl, ?_⟩) hHeld ?_
    rotate_left
    · intro w hSw; replace hSw : Sg574_0 w := hSw; rw [HSg574_0.out] at hSw; (try dsimp only at hSw); first | (go_simp; done) | (go_simp; with_reducible rfl)
    try simp only [Act.put, List.setIfInBounds_toArray, List.set_cons_zero, List.set_cons_succ]
    refine heldp_take (v := ?_) 30 0 rfl (by kernel_rfl) (.inl ⟨by rfl, ?_⟩) hHeld ?_
    rotate_left
    · intro w hSw; replace hSw : Sg574_0 w := hSw; rw [HSg574_0.out] at hSw; (try dsimp only at hSw); first | (go_simp; done) | (go_simp; with_reducible rfl)
    try simp only [Act.put, List.setIfInBounds_toArray, List.set_cons_zero, List.set_cons_succ]
    refine heldp_take (v := ?_) 31 0 rfl (by kernel_rfl) (.inl ⟨by rfl, ?_⟩) hHeld ?_
    rotate_left
    · intro w hSw; replace hSw : Sg574_0 w := hSw; rw [HSg574_0.out] at hSw; (try dsimp only at hSw); first | (go_simp; done) | (go_simp; with_reducible rfl)
    try simp only [Act.put, List.setIfInBounds_toArray, List.set_cons_zero, List.set_cons_succ]
    refine heldp_take (v := ?_) 32 0 rfl (by kernel_rfl) (.inl ⟨by rfl, ?_⟩) hHeld ?_
    rotate_left
    · intro w hSw; replace hSw : Sg574_0 w := hSw; rw [HSg574_0.out] at hSw; (try dsimp only at hSw); first | (go_simp; done) | (go_simp; with_reducible rfl)
    try simp only [Act.put, List.setIfInBounds_toArray, List.set_cons_zero, List.set_cons_succ]
    refine heldp_take (v := ?_) 33 0 rfl (by kernel_rfl) (.inl ⟨by rfl, ?_⟩) hHeld ?_
    rotate_left
    · intro w hSw; replace hSw : Sg574_0 w := hSw; rw [HSg574_0.out] at hSw; (try dsimp only at hSw); first | (go_simp; done) | (go_simp; with_reducible rfl)
    try simp only [Act.put, List.setIfInBounds_toArray, List.set_cons_zero, List.set_cons_succ]
    refine heldp_take (v := ?_) 34 0 rfl (by kernel_rfl) (.inl ⟨by rfl, ?_⟩) hHeld ?_
    rotate_left
    · intro w hSw; replace hSw : Sg574_0 w := hSw; rw [HSg574_0.out] at hSw; (try dsimp only at hSw); first | (go_simp; done) | (go_simp; with_reducible rfl)
    try simp only [Act.put, List.setIfInBounds_toArray, List.set_cons_zero, List.set_cons_succ]
    refine heldp_take (v := ?_) 35 0 rfl (by kernel_rfl) (.inl ⟨by rfl, ?_⟩) hHeld ?_
    rotate_left
    · intro w hSw; replace hSw : Sg574_0 w := hSw; rw [HSg574_0.out] at hSw; (try dsimp only at hSw); first | (go_simp; done) | (go_simp; with_reducible rfl)
    try simp only [Act.put, List.setIfInBounds_toArray, List.set_cons_zero, List.set_cons_succ]
    refine heldp_take (v := ?_) 36 0 rfl (by kernel_rfl) (.inl ⟨by rfl, ?_⟩) hHeld ?_
    rotate_left
    · intro w hSw; replace hSw : Sg574_0 w := hSw; rw [HSg574_0.out] at hSw; (try dsimp only at hSw); first | (go_simp; done) | (go_simp; with_reducible rfl)
    try simp only [Act.put, List.setIfInBounds_toArray, List.set_cons_zero, List.set_cons_succ]
    refine heldp_take (v := ?_) 37 0 rfl (by kernel_rfl) (.inl ⟨by rfl, ?_⟩) hHeld ?_
    rotate_left
    · intro w hSw; replace hSw : Sg574_0 w := hSw; rw [HSg574_0.out] at hSw; (try dsimp only at hSw); first | (go_simp; done) | (go_simp; with_reducible rfl)
    try simp only [Act.put, List.setIfInBounds_toArray, List.set_cons_zero, List.set_cons_succ]
    refine heldp_take (v := ?_) 38 0 rfl (by kernel_rfl) (.inl ⟨by rfl, ?_⟩) hHeld ?_
    rotate_left
    · intro w hSw; replace hSw : Sg574_0 w := hSw; rw [HSg574_0.out] at hSw; (try dsimp only at hSw); first | (go_simp; done) | (go_simp; with_reducible rfl)
    try simp only [Act.put, List.setIfInBounds_toArray, List.set_cons_zero, List.set_cons_succ]
    refine heldp_take (v := ?_) 39 0 rfl (by kernel_rfl) (.inl ⟨by rfl, ?_⟩) hHeld ?_
    rotate_left
    · intro w hSw; replace hSw : Sg574_0 w := hSw; rw [HSg574_0.out] at hSw; (try dsimp only at hSw); first | (go_simp; done) | (go_simp; with_reducible rfl)
    try simp only [Act.put, List.setIfInBounds_toArray, List.set_cons_zero, List.set_cons_succ]
    refine heldp_take (v := ?_) 40 0 rfl (by kernel_rfl) (.inl ⟨by rfl, ?_⟩) hHeld ?_
    rotate_left
    · intro w hSw; replace hSw : Sg574_0 w := hSw; rw [HSg574_0.out] at hSw; (try dsimp only at hSw); first | (go_simp; done) | (go_simp; with_reducible rfl)
    try simp only [Act.put, List.setIfInBounds_toArray, List.set_cons_zero, List.set_cons_succ]
    refine heldp_take (v := ?_) 41 0 rfl (by kernel_rfl) (.inl ⟨by rfl, ?_⟩) hHeld ?_
    rotate_left
    · intro w hSw; replace hSw : Sg574_0 w := hSw; rw [HSg574_0.out] at hSw; (try dsimp only at hSw); first | (go_simp; done) | (go_simp; with_reducible rfl)
    try simp only [Act.put, List.setIfInBounds_toArray, List.set_cons_zero, List.set_cons_succ]
    refine heldp_take (v := ?_) 42 0 rfl (by kernel_rfl) (.inl ⟨by rfl, ?_⟩) hHeld ?_
    rotate_left
    · intro w hSw; replace hSw : Sg574_0 w := hSw; rw [HSg574_0.out] at hSw; (try dsimp only at hSw); first | (go_simp; done) | (go_simp; with_reducible rfl)
    try simp only [Act.put, List.setIfInBounds_toArray, List.set_cons_zero, List.set_cons_succ]
    refine heldp_take (v := ?_) 43 0 rfl (by kernel_rfl) (.inl ⟨by rfl, ?_⟩) hHeld ?_
    rotate_left
    · intro w hSw; replace hSw : Sg574_0 w := hSw; rw [HSg574_0.out] at hSw; (try dsimp only at hSw); first | (go_simp; done) | (go_simp; with_reducible rfl)
    try simp only [Act.put, List.setIfInBounds_toArray, List.set_cons_zero, List.set_cons_succ]
    refine heldp_take (v := ?_) 44 0 rfl (by kernel_rfl) (.inl ⟨by rfl, ?_⟩) hHeld ?_
    rotate_left
    · intro w hSw; replace hSw : Sg574_0 w := hSw; rw [HSg574_0.out] at hSw; (try dsimp only at hSw); first | (go_simp; done) | (go_simp; with_reducible rfl)
    try simp only [Act.put, List.setIfInBounds_toArray, List.set_cons_zero, List.set_cons_succ]
    refine heldp_take (v := ?_) 45 0 rfl (by kernel_rfl) (.inl ⟨by rfl, ?_⟩) hHeld ?_
    rotate_left
    · intro w hSw; replace hSw : Sg574_0 w := hSw; rw [HSg574_0.out] at hSw; (try dsimp only at hSw); first | (go_simp; done) | (go_simp; with_reducible rfl)
    try simp only [Act.put, List.setIfInBounds_toArray, List.set_cons_zero, List.set_cons_succ]
    refine heldp_take (v := ?_) 46 0 rfl (by kernel_rfl) (.inl ⟨by rfl, ?_⟩) hHeld ?_
    rotate_left
    · intro w hSw; replace hSw : Sg574_0 w := hSw; rw [HSg574_0.out] at hSw; (try dsimp only at hSw); first | (go_simp; done) | (go_simp; with_reducible rfl)
    try simp only [Act.put, List.setIfInBounds_toArray, List.set_cons_zero, List.set_cons_succ]
    refine heldp_take (v := ?_) 47 0 rfl (by kernel_rfl) (.inl ⟨by rfl, ?_⟩) hHeld ?_
    rotate_left
    · intro w hSw; replace hSw : Sg574_0 w := hSw; rw [HSg574_0.out] at hSw; (try dsimp only at hSw); first | (go_simp; done) | (go_simp; with_reducible rfl)
    try simp only [Act.put, List.setIfInBounds_toArray, List.set_cons_zero, List.set_cons_succ]
    refine heldp_take (v := ?_) 48 0 rfl (by kernel_rfl) (.inl ⟨by rfl, ?_⟩) hHeld ?_
    rotate_left
    · intro w hSw; replace hSw : Sg574_0 w := hSw; rw [HSg574_0.out] at hSw; (try dsimp only at hSw); first | (go_simp; done) | (go_simp; with_reducible rfl)
    try simp only [Act.put, List.setIfInBounds_toArray, List.set_cons_zero, List.set_cons_succ]
    refine heldp_take (v := ?_) 49 0 rfl (by kernel_rfl) (.inl ⟨by rfl, ?_⟩) hHeld ?_
    rotate_left
    · intro w hSw; replace hSw : Sg574_0 w := hSw; rw [HSg574_0.out] at hSw; (try dsimp only at hSw); first | (go_simp; done) | (go_simp; with_reducible rfl)
    try simp only [Act.put, List.setIfInBounds_toArray, List.set_cons_zero, List.set_cons_succ]
    refine heldp_take (v := ?_) 50 0 rfl (by kernel_rfl) (.inl ⟨by rfl, ?_⟩) hHeld ?_
    rotate_left
    · intro w hSw; replace hSw : Sg574_0 w := hSw; rw [HSg574_0.out] at hSw; (try dsimp only at hSw); first | (go_simp; done) | (go_simp; with_reducible rfl)
    try simp only [Act.put, List.setIfInBounds_toArray, List.set_cons_zero, List.set_cons_succ]
    refine heldp_take (v := ?_) 51 0 rfl (by kernel_rfl) (.inl ⟨by rfl, ?_⟩) hHeld ?_
    rotate_left
    · intro w hSw; replace hSw : Sg574_0 w := hSw; rw [HSg574_0.out] at hSw; (try dsimp only at hSw); first | (go_simp; done) | (go_simp; with_reducible rfl)
    try simp only [Act.put, List.setIfInBounds_toArray, List.set_cons_zero, List.set_cons_succ]
    refine heldp_take (v := ?_) 52 0 rfl (by kernel_rfl) (.inl ⟨by rfl, ?_⟩) hHeld ?_
    rotate_left
    · intro w hSw; replace hSw : Sg574_0 w := hSw; rw [HSg574_0.out] at hSw; (try dsimp only at hSw); first | (go_simp; done) | (go_simp; with_reducible rfl)
    try simp only [Act.put, List.setIfInBounds_toArray, List.set_cons_zero, List.set_cons_succ]
    refine heldp_take (v := ?_) 53 0 rfl (by kernel_rfl) (.inl ⟨by rfl, ?_⟩) hHeld ?_
    rotate_left
    · intro w hSw; replace hSw : Sg574_0 w := hSw; rw [HSg574_0.out] at hSw; (try dsimp only at hSw); first | (go_simp; done) | (go_simp; with_reducible rfl)
    try simp only [Act.put, List.setIfInBounds_toArray, List.set_cons_zero, List.set_cons_succ]
    refine heldp_take (v := ?_) 54 0 rfl (by kernel_rfl) (.inl ⟨by rfl, ?_⟩) hHeld ?_
    rotate_left
    · intro w hSw; replace hSw : Sg574_0 w := hSw; rw [HSg574_0.out] at hSw; (try dsimp only at hSw); first | (go_simp; done) | (go_simp; with_reducible rfl)
    try simp only [Act.put, List.setIfInBounds_toArray, List.set_cons_zero, List.set_cons_succ]
    refine heldp_take (v := ?_) 55 0 rfl (by kernel_rfl) (.inl ⟨by rfl, ?_⟩) hHeld ?_
    rotate_left
    · intro w hSw; replace hSw : Sg574_0 w := hSw; rw [HSg574_0.out] at hSw; (try dsimp only at hSw); first | (go_simp; done) | (go_simp; with_reducible rfl)
    try simp only [Act.put, List.setIfInBounds_toArray, List.set_cons_zero, List.set_cons_succ]
    refine heldp_take (v := ?_) 56 0 rfl (by kernel_rfl) (.inl ⟨by rfl, ?_⟩) hHeld ?_
    rotate_left
    · intro w hSw; replace hSw : Sg574_0 w := hSw; rw [HSg574_0.out] at hSw; (try dsimp only at hSw); first | (go_simp; done) | (go_simp; with_reducible rfl)
    try simp only [Act.put, List.setIfInBounds_toArray, List.set_cons_zero, List.set_cons_succ]
    refine heldp_take (v := ?_) 57 0 rfl (by kernel_rfl) (.inl ⟨by rfl, ?_⟩) hHeld ?_
    rotate_left
    · intro w hSw; replace hSw : Sg574_0 w := hSw; rw [HSg574_0.out] at hSw; (try dsimp only at hSw); first | (go_simp; done) | (go_simp; with_reducible rfl)
    try simp only [Act.put, List.setIfInBounds_toArray, List.set_cons_zero, List.set_cons_succ]
    refine heldp_take (v := ?_) 58 0 rfl (by kernel_rfl) (.inl ⟨by rfl, ?_⟩) hHeld ?_
    rotate_left
    · intro w hSw; replace hSw : Sg574_0 w := hSw; rw [HSg574_0.out] at hSw; (try dsimp only at hSw); first | (go_simp; done) | (go_simp; with_reducible rfl)
    try simp only [Act.put, List.setIfInBounds_toArray, List.set_cons_zero, List.set_cons_succ]
    refine heldp_call 59 0 rfl (by kernel_rfl) (fun K hK => ?_)
    go_simp
    have hfa : Fr no wc (wc.alloc (.cells #[.int .i64 1, .int .i64 2] 3)) := (Fr.refl no wc).alloc _
    have hba := World.alloc_heap_new wc (.cells #[.int .i64 1, .int .i64 2] 3)
    obtain ⟨gl, hgl⟩ : ∃ x, wc.heap.size = x := ⟨_, rfl⟩
    obtain ⟨wc, hwc⟩ : ∃ x, wc.alloc (.cells #[.int .i64 1, .int .i64 2] 3) = x := ⟨_, rfl⟩
    rw [hgl, hwc]
    rw [hgl, hwc] at hba
    rw [hwc] at hfa
    replace HF := Lib.hid (HF.out.trans' hfa)
    have L := Lib.hid hba
    clear hba hfa hwc hgl
    refine hK.out _ _ ?_ (fun hHeld' => ?_)
    · show Sg574_0 _; rw [HSg574_0.out]; have hb := HF.out.heap T2.out (fun f => f); exact ⟨cell_of_block hb rfl, cell_of_block hb rfl, cell_of_block hb rfl, cell_of_block hb rfl, HF.out.cell b0 (fun f => f), HF.out.cell b1 (fun f => f), HF.out.cell b2 (fun f => f), HF.out.cell b3 (fun f => f), HF.out.cell b4 (fun f => f)⟩
    clear hK K hHeld
    have hHeld := hHeld'
    clear hHeld'
    try simp only [Act.put, List.setIfInBounds_toArray, List.set_cons_zero, List.set_cons_succ]
    refine heldp_call 60 0 rfl (by kernel_rfl) (fun K hK => ?_)
    go_simp
    go_at_call 25
    refine (show Calls _ _ _ wc (fun e w' => e = .returned (.bool true) ∧ wc = w') from ref_same (.slice so2 2 sc2) (.slice (some ⟨gl, 0, none⟩) 2 2) [1, 2] [1, 2] wc (Rd.fr Hse.out HF.out (fun _ _ _ f => f)) (rd_blk L.out)).mono ?_
    rintro e w' ⟨rfl, rfl⟩
    clear L
    refine hK.out _ _ ?_ (fun hHeld' => ?_)
    · show Sg574_0 _; rw [HSg574_0.out]; have hb := HF.out.heap T2.out (fun f => f); exact ⟨cell_of_block hb rfl, cell_of_block hb rfl, cell_of_block hb rfl, cell_of_block hb rfl, HF.out.cell b0 (fun f => f), HF.out.cell b1 (fun f => f), HF.out.cell b2 (fun f => f), HF.out.cell b3 (fun f => f), HF.out.cell b4 (fun f => f)⟩
    clear hK K hHeld
    have hHeld := hHeld'
    clear hHeld'
    try simp only [Act.put, List.setIfInBounds_toArray, List.set_cons_zero, List.set_cons_succ]
    refine heldp_take (v := ?_) 61 0 rfl (by kernel_rfl) (.inl ⟨by rfl, ?_⟩) hHeld ?_
    rotate_left
    · intro w hSw; replace hSw : Sg574_0 w := hSw; rw [HSg574_0.out] at hSw; (try dsimp only at hSw); first | (go_simp; done) | (go_simp; with_reducible rfl)
    try simp only [Act.put, List.setIfInBounds_toArray, List.set_cons_zero, List.set_cons_succ]
    refine heldp_take (v := ?_) 62 0 rfl (by kernel_rfl) (.inl ⟨by rfl, ?_⟩) hHeld ?_
    rotate_left
    · intro w hSw; replace hSw : Sg574_0 w := hSw; rw [HSg574_0.out] at hSw; (try dsimp only at hSw); first | (go_simp; done) | (go_simp; with_reducible rfl)
    try simp only [Act.put, List.setIfInBounds_toArray, List.set_cons_zero, List.set_cons_succ]
    refine heldp_take (v := ?_) 63 0 rfl (by kernel_rfl) (.inl ⟨by rfl, ?_⟩) hHeld ?_
    rotate_left
    · intro w hSw; replace hSw : Sg574_0 w := hSw; rw [HSg574_0.out] at hSw; (try dsimp only at hSw); first | (go_simp; done) | (go_simp; with_reducible rfl)
    try simp only [Act.put, List.setIfInBounds_toArray, List.set_cons_zero, List.set_cons_succ]
    refine heldp_call 64 0 rfl (by kernel_rfl) (fun K hK => ?_)
    go_simp
    go_at_call 26
    refine (show Calls _ _ _ _ (fun e w' => e = .returned (.agg #[.int .i64 0, .int .i64 1, .int .i64 3, .slice none 0 0, .string ⟨#[107]⟩, .string ⟨#[]⟩]) ∧ Fr no wc w') from law_D 1 3 none 0 0 [] wc).mono ?_
    rintro e wc ⟨rfl, hfd⟩
    replace HF := Lib.hid (HF.out.trans' hfd)
    clear hfd
    refine hK.out _ _ ?_ (fun hHeld' => ?_)
    · show Sg574_0 _; rw [HSg574_0.out]; have hb := HF.out.heap T2.out (fun f => f); exact ⟨cell_of_block hb rfl, cell_of_block hb rfl, cell_of_block hb rfl, cell_of_block hb rfl, HF.out.cell b0 (fun f => f), HF.out.cell b1 (fun f => f), HF.out.cell b2 (fun f => f), HF.out.cell b3 (fun f => f), HF.out.cell b4 (fun f => f)⟩
    clear hK K hHeld
    have hHeld := hHeld'
    clear hHeld'
    try simp only [Act.put, List.setIfInBounds_toArray, List.set_cons_zero, List.set_cons_succ]
    refine heldp_call 65 0 rfl (by kernel_rfl) (fun K hK => ?_)
    go_simp
    go_at_call 14
    refine (show Calls _ _ _ wc (fun e w' => e = .returned (.bool true) ∧ Fr no wc w') from tMay 0 8 (.slice so2 2 sc2) (.slice to2 0 tc2) [1, 2] (mkDr 1 3 (.slice none 0 0) []) wc (Rd.fr Hse.out HF.out (fun _ _ _ f => f)) (rd_zero _ _) (fun x h => by simp at h; omega)).mono ?_
    rintro e wc ⟨rfl, hfd⟩
    replace HF := Lib.hid (HF.out.trans' hfd)
    clear hfd
    refine hK.out _ _ ?_ (fun hHeld' => ?_)
    · show Sg574_0 _; rw [HSg574_0.out]; have hb := HF.out.heap T2.out (fun f => f); exact ⟨cell_of_block hb rfl, cell_of_block hb rfl, cell_of_block hb rfl, cell_of_block hb rfl, HF.out.cell b0 (fun f => f), HF.out.cell b1 (fun f => f), HF.out.cell b2 (fun f => f), HF.out.cell b3 (fun f => f), HF.out.cell b4 (fun f => f)⟩
    clear hK K hHeld
    have hHeld := hHeld'
    clear hHeld'
    try simp only [Act.put, List.setIfInBounds_toArray, List.set_cons_zero, List.set_cons_succ]
    refine heldp_take (v := ?_) 66 0 rfl (by kernel_rfl) (.inl ⟨by rfl, ?_⟩) hHeld ?_
    rotate_left
    · intro w hSw; replace hSw : Sg574_0 w := hSw; rw [HSg574_0.out] at hSw; (try dsimp only at hSw); first | (go_simp; done) | (go_simp; with_reducible rfl)
    try simp only [Act.put, List.setIfInBounds_toArray, List.set_cons_zero, List.set_cons_succ]
    refine heldp_take (v := ?_) 67 0 rfl (by kernel_rfl) (.inl ⟨by rfl, ?_⟩) hHeld ?_
    rotate_left
    · intro w hSw; replace hSw : Sg574_0 w := hSw; rw [HSg574_0.out] at hSw; (try dsimp only at hSw); first | (go_simp; done) | (go_simp; with_reducible rfl)
    try simp only [Act.put, List.setIfInBounds_toArray, List.set_cons_zero, List.set_cons_succ]
    refine heldp_take (v := ?_) 68 0 rfl (by kernel_rfl) (.inl ⟨by rfl, ?_⟩) hHeld ?_
    rotate_left
    · intro w hSw; replace hSw : Sg574_0 w := hSw; rw [HSg574_0.out] at hSw; (try dsimp only at hSw); first | (go_simp; done) | (go_simp; with_reducible rfl)
    try simp only [Act.put, List.setIfInBounds_toArray, List.set_cons_zero, List.set_cons_succ]
    refine heldp_call 69 0 rfl (by kernel_rfl) (fun K hK => ?_)
    go_simp
    go_at_call 26
    refine (show Calls _ _ _ _ (fun e w' => e = .returned (.agg #[.int .i64 0, .int .i64 1, .int .i64 4, .slice none 0 0, .string ⟨#[107]⟩, .string ⟨#[]⟩]) ∧ Fr no wc w') from law_D 1 4 none 0 0 [] wc).mono ?_
    rintro e wc ⟨rfl, hfd⟩
    replace HF := Lib.hid (HF.out.trans' hfd)
    clear hfd
    refine hK.out _ _ ?_ (fun hHeld' => ?_)
    · show Sg574_0 _; rw [HSg574_0.out]; have hb := HF.out.heap T2.out (fun f => f); exact ⟨cell_of_block hb rfl, cell_of_block hb rfl, cell_of_block hb rfl, cell_of_block hb rfl, HF.out.cell b0 (fun f => f), HF.out.cell b1 (fun f => f), HF.out.cell b2 (fun f => f), HF.out.cell b3 (fun f => f), HF.out.cell b4 (fun f => f)⟩
    clear hK K hHeld
    have hHeld := hHeld'
    clear hHeld'
    try simp only [Act.put, List.setIfInBounds_toArray, List.set_cons_zero, List.set_cons_succ]
    refine heldp_call 70 0 rfl (by kernel_rfl) (fun K hK => ?_)
    go_simp
    go_at_call 14
    refine (show Calls _ _ _ wc (fun e w' => e = .returned (.bool false) ∧ Fr no wc w') from tMay 0 8 (.slice so2 2 sc2) (.slice to2 0 tc2) [1, 2] (mkDr 1 4 (.slice none 0 0) []) wc (Rd.fr Hse.out HF.out (fun _ _ _ f => f)) (rd_zero _ _) (fun x h => by simp at h; omega)).mono ?_
    rintro e wc ⟨rfl, hfd⟩
    replace HF := Lib.hid (HF.out.trans' hfd)
    clear hfd
    refine hK.out _ _ ?_ (fun hHeld' => ?_)
    · show Sg574_0 _; rw [HSg574_0.out]; have hb := HF.out.heap T2.out (fun f => f); exact ⟨cell_of_block hb rfl, cell_of_block hb rfl, cell_of_block hb rfl, cell_of_block hb rfl, HF.out.cell b0 (fun f => f), HF.out.cell b1 (fun f => f), HF.out.cell b2 (fun f => f), HF.out.cell b3 (fun f => f), HF.out.cell b4 (fun f => f)⟩
    clear hK K hHeld
    have hHeld := hHeld'
    clear hHeld'
    try simp only [Act.put, List.setIfInBounds_toArray, List.set_cons_zero, List.set_cons_succ]
    refine heldp_take (v := ?_) 71 0 rfl (by kernel_rfl) (.inl ⟨by rfl, ?_⟩) hHeld ?_
    rotate_left
    · intro w hSw; replace hSw : Sg574_0 w := hSw; rw [HSg574_0.out] at hSw; (try dsimp only at hSw); first | (go_simp; done) | (go_simp; with_reducible rfl)
    try simp only [Act.put, List.setIfInBounds_toArray, List.set_cons_zero, List.set_cons_succ]
    refine heldp_take (v := ?_) 72 0 rfl (by kernel_rfl) (.inl ⟨by rfl, ?_⟩) hHeld ?_
    rotate_left
    · intro w hSw; replace hSw : Sg574_0 w := hSw; rw [HSg574_0.out] at hSw; (try dsimp only at hSw); first | (go_simp; done) | (go_simp; with_reducible rfl)
    try simp only [Act.put, List.setIfInBounds_toArray, List.set_cons_zero, List.set_cons_succ]
    refine heldp_take (v := ?_) 73 0 rfl (by kernel_rfl) (.inl ⟨by rfl, ?_⟩) hHeld ?_
    rotate_left
    · intro w hSw; replace hSw : Sg574_0 w := hSw; rw [HSg574_0.out] at hSw; (try dsimp only at hSw); first | (go_simp; done) | (go_simp; with_reducible rfl)
    try simp only [Act.put, List.setIfInBounds_toArray, List.set_cons_zero, List.set_cons_succ]
    refine heldp_take (v := ?_) 74 0 rfl (by kernel_rfl) (.inl ⟨by rfl, ?_⟩) hHeld ?_
    rotate_left
    · intro w hSw; replace hSw : Sg574_0 w := hSw; rw [HSg574_0.out] at hSw; (try dsimp only at hSw); first | (go_simp; done) | (go_simp; with_reducible rfl)
    try simp only [Act.put, List.setIfInBounds_toArray, List.set_cons_zero, List.set_cons_succ]
    refine heldp_call 75 0 rfl (by kernel_rfl) (fun K hK => ?_)
    go_simp
    go_at_call 10
    refine (show Calls _ _ _ wc (fun e w' => e = .returned (.int .i64 0) ∧ Fr no wc w') from tCheck 0 8 (.slice so2 2 sc2) (.slice to2 0 tc2) [1, 2] wc (Rd.fr Hse.out HF.out (fun _ _ _ f => f))).mono ?_
    rintro e wc ⟨rfl, hfd⟩
    replace HF := Lib.hid (HF.out.trans' hfd)
    clear hfd
    refine hK.out _ _ ?_ (fun hHeld' => ?_)
    · show Sg574_0 _; rw [HSg574_0.out]; have hb := HF.out.heap T2.out (fun f => f); exact ⟨cell_of_block hb rfl, cell_of_block hb rfl, cell_of_block hb rfl, cell_of_block hb rfl, HF.out.cell b0 (fun f => f), HF.out.cell b1 (fun f => f), HF.out.cell b2 (fun f => f), HF.out.cell b3 (fun f => f), HF.out.cell b4 (fun f => f)⟩
    clear hK K hHeld
    have hHeld := hHeld'
    clear hHeld'
    try simp only [Act.put, List.setIfInBounds_toArray, List.set_cons_zero, List.set_cons_succ]
    refine heldp_take (v := ?_) 76 0 rfl (by kernel_rfl) (.inl ⟨by rfl, ?_⟩) hHeld ?_
    rotate_left
    · intro w hSw; replace hSw : Sg574_0 w := hSw; rw [HSg574_0.out] at hSw; (try dsimp only at hSw); first | (go_simp; done) | (go_simp; with_reducible rfl)
    try simp only [Act.put, List.setIfInBounds_toArray, List.set_cons_zero, List.set_cons_succ]
    refine heldp_take (v := ?_) 77 0 rfl (by kernel_rfl) (.inl ⟨by rfl, ?_⟩) hHeld ?_
    rotate_left
    · intro w hSw; replace hSw : Sg574_0 w := hSw; rw [HSg574_0.out] at hSw; (try dsimp only at hSw); first | (go_simp; done) | (go_simp; with_reducible rfl)
    try simp only [Act.put, List.setIfInBounds_toArray, List.set_cons_zero, List.set_cons_succ]
    refine heldp_take (v := ?_) 78 0 rfl (by kernel_rfl) (.inl ⟨by rfl, ?_⟩) hHeld ?_
    rotate_left
    · intro w hSw; replace hSw : Sg574_0 w := hSw; rw [HSg574_0.out] at hSw; (try dsimp only at hSw); first | (go_simp; done) | (go_simp; with_reducible rfl)
    try simp only [Act.put, List.setIfInBounds_toArray, List.set_cons_zero, List.set_cons_succ]
    refine heldp_done (by kernel_rfl) ?_
    try clear hHeld
    clear HSg574_0
    try clear Sg574_0
    clear b0 b1 b2 b3 b4
    go_wp2
    go_ret
    exact ⟨rfl, HG.out.trans' HF.out⟩
end Go.Proofs.Ytdddgfienicaaaa
