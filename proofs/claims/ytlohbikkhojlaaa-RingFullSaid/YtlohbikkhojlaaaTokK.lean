/- Laws of the token: drafts of the law's own, what is known. -/
import Derived.Test.YtlohbikkhojlaaaTok3
import Derived.Test.YtlohbikkhojlaaaRefVec
import Derived.Test.YtlohbikkhojlaaaHeld2
import Derived.IntWalk
namespace Go.XL
open Go.RowKit Go.Shelf
set_option linter.unusedVariables false
/-- the law's own draft -/
def mkDr (s q : Int) (dv : Value) (dep : List Int) : Dr := ⟨if q = 0 then 1 else 0, s, q, dv, dep, ⟨#[107]⟩, ⟨#[]⟩⟩
/-- four cells of a block written, one behind the other -/
theorem set4 {w : World} {g : Nat} {a0 a1 a2 a3 : Value} {E : TypeId} (h : w.heap[g]? = some (.cells #[a0, a1, a2, a3] E (0, 0))) (b0 b1 b2 b3 : Value) :
    ∃ w1 w2 w3 w4, w.setCell ⟨g, 0, none⟩ b0 = w1 ∧ w1.setCell ⟨g, 1, none⟩ b1 = w2 ∧ w2.setCell ⟨g, 2, none⟩ b2 = w3 ∧ w3.setCell ⟨g, 3, none⟩ b3 = w4 ∧
      w.cell? ⟨g, 0, none⟩ = some a0 ∧ w1.cell? ⟨g, 1, none⟩ = some a1 ∧ w2.cell? ⟨g, 2, none⟩ = some a2 ∧ w3.cell? ⟨g, 3, none⟩ = some a3 ∧
      w.frozen? ⟨g, 0, none⟩ = false ∧ w1.frozen? ⟨g, 1, none⟩ = false ∧ w2.frozen? ⟨g, 2, none⟩ = false ∧ w3.frozen? ⟨g, 3, none⟩ = false ∧
      w4.heap[g]? = some (.cells #[b0, b1, b2, b3] E (0, 0)) ∧ Fr (fun i => i = g) w w4 := by
  have h1 : (w.setCell ⟨g, 0, none⟩ b0).heap[g]? = some (.cells #[b0, a1, a2, a3] E (0, 0)) := by simpa using heap_setC (j := 0) b0 h
  have h2 : ((w.setCell ⟨g, 0, none⟩ b0).setCell ⟨g, 1, none⟩ b1).heap[g]? = some (.cells #[b0, b1, a2, a3] E (0, 0)) := by simpa using heap_setC (j := 1) b1 h1
  have h3 : (((w.setCell ⟨g, 0, none⟩ b0).setCell ⟨g, 1, none⟩ b1).setCell ⟨g, 2, none⟩ b2).heap[g]? = some (.cells #[b0, b1, b2, a3] E (0, 0)) := by simpa using heap_setC (j := 2) b2 h2
  have h4 : ((((w.setCell ⟨g, 0, none⟩ b0).setCell ⟨g, 1, none⟩ b1).setCell ⟨g, 2, none⟩ b2).setCell ⟨g, 3, none⟩ b3).heap[g]? = some (.cells #[b0, b1, b2, b3] E (0, 0)) := by simpa using heap_setC (j := 3) b3 h3
  have F : ∀ (X : World) (j : Nat) (v : Value), Fr (fun i => i = g) X (X.setCell ⟨g, j, none⟩ v) := fun X j v => (Fr.refl (fun i => i = g) X).setCell (p := ⟨g, j, none⟩) (fun _ => rfl) _
  exact ⟨_, _, _, _, rfl, rfl, rfl, rfl, cell_of_block h rfl, cell_of_block h1 rfl, cell_of_block h2 rfl, cell_of_block h3 rfl, frozen_of_block h, frozen_of_block h1, frozen_of_block h2, frozen_of_block h3, h4, ((F _ _ _).trans' (F _ _ _)).trans' ((F _ _ _).trans' (F _ _ _))⟩
/-- Check of a token -/
def tcheck (own next : Int) (seen : List Int) : Int := if own < 0 then 1 else if own ≥ 8 then 1 else if next < 0 then 1 else vcheck seen 8
end Go.XL
namespace Go.Proofs.Ytlohbikkhojlaaa
open Go.RowKit Go.Shelf Go.XL
set_option linter.unusedVariables false
set_option linter.unusedSimpArgs false
attribute [local go_sem] Oper.semAt_some

set_option maxHeartbeats 1000000 in
theorem law_D (s q : Int) (ao : Option Addr) (n cap : Nat) (dep : List Int) (w : World) :
    Calls Try.prog 10 #[.int .i64 s, .int .i64 q, .slice ao n cap] w fun e w' => e = .returned (mkDr s q (.slice ao n cap) dep).v ∧ Fr no w w' := by
  have hf : ∀ c, Fr no w (w.alloc c) := fun c => (Fr.refl no w).alloc _
  have HF := Lib.hid hf
  clear hf
  have hm : ∀ t, (if q = 0 then (1 : Int) else 0) = t → Hid ((mkDr s q (.slice ao n cap) dep).v = .agg #[.int .i64 t, .int .i64 s, .int .i64 q, .slice ao n cap, .string ⟨#[107]⟩, .string ⟨#[]⟩]) := fun t h => Lib.hid (by unfold mkDr Dr.v; dsimp only; rw [h])
  by_cases hq : q = 0
  · have R := hm 1 (if_pos hq)
    clear hm
    subst hq
    rw [R.out]
    go_enter Try.func10, Try.ntmps10
    go_wp2
    refine bodyPost_ret (v := .agg #[.int .i64 1, .int .i64 s, .int .i64 0, .slice ao n cap, .string ⟨#[107]⟩, .string ⟨#[]⟩]) ?_ rfl ⟨rfl, HF.out _⟩
    have hb := World.alloc_heap_new w (.cells #[.int .i64 1, .int .i64 s, .int .i64 0, .slice ao n cap, .string ⟨#[107]⟩, .string ⟨#[]⟩] 34)
    have y0 := cell_of_block (j := 0) hb rfl
    have y1 := cell_of_block (j := 1) hb rfl
    have y2 := cell_of_block (j := 2) hb rfl
    have y3 := cell_of_block (j := 3) hb rfl
    have y4 := cell_of_block (j := 4) hb rfl
    have y5 := cell_of_block (j := 5) hb rfl
    clear hb
    simp [results, Try.results10, go_sem, y0, y1, y2, y3, y4, y5]
  · have R := hm 0 (if_neg hq)
    clear hm
    rw [R.out]
    go_enter Try.func10, Try.ntmps10
    go_wp2
    refine bodyPost_ret (v := .agg #[.int .i64 0, .int .i64 s, .int .i64 q, .slice ao n cap, .string ⟨#[107]⟩, .string ⟨#[]⟩]) ?_ rfl ⟨rfl, HF.out _⟩
    have hb := World.alloc_heap_new w (.cells #[.int .i64 0, .int .i64 s, .int .i64 q, .slice ao n cap, .string ⟨#[107]⟩, .string ⟨#[]⟩] 34)
    have y0 := cell_of_block (j := 0) hb rfl
    have y1 := cell_of_block (j := 1) hb rfl
    have y2 := cell_of_block (j := 2) hb rfl
    have y3 := cell_of_block (j := 3) hb rfl
    have y4 := cell_of_block (j := 4) hb rfl
    have y5 := cell_of_block (j := 5) hb rfl
    clear hb
    simp [results, Try.results10, go_sem, y0, y1, y2, y3, y4, y5]

theorem tCheck (own next : Int) (sv lv : Value) (seen : List Int) (w : World) (hs : IntsAt w sv seen) :
    Calls Try.prog 34 #[tkV own next sv lv] w fun e w' => e = .returned (.int .i64 (tcheck own next seen)) ∧ Fr no w w' := by
  obtain ⟨so, sc, rfl, _, _⟩ := hs.cap
  have hf : ∀ c, Fr no w (w.alloc c) := fun c => (Fr.refl no w).alloc _
  have HF := Lib.hid hf
  have Hch := Lib.hid (fun (w' : World) (h : Fr no w w') => vec_check (.slice so seen.length sc) seen 8 w' (hs.fr h (fun _ _ _ f => f)))
  have hm : ∀ t, (if own < 0 then 1 else if own ≥ 8 then 1 else if next < 0 then 1 else vcheck seen 8) = t → Hid (tcheck own next seen = t) := fun t h => Lib.hid h
  clear hf hs
  generalize seen.length = sn at *
  unfold tkV
  by_cases h1 : own < 0
  · have R := hm 1 (by rw [if_pos h1])
    clear hm
    rw [R.out]
    go_enter Try.func34, Try.ntmps34
    go_wp2
    go_ret
    exact ⟨rfl, HF.out _⟩
  · by_cases h2 : 8 ≤ own
    · have R := hm 1 (by rw [if_neg h1, if_pos h2])
      clear hm
      rw [R.out]
      go_enter Try.func34, Try.ntmps34
      go_wp2
      go_ret
      exact ⟨rfl, HF.out _⟩
    · by_cases h3 : next < 0
      · have R := hm 1 (by rw [if_neg h1, if_neg h2, if_pos h3])
        clear hm
        rw [R.out]
        go_enter Try.func34, Try.ntmps34
        go_wp2
        go_ret
        exact ⟨rfl, HF.out _⟩
      · have R := hm (vcheck seen 8) (by rw [if_neg h1, if_neg h2, if_neg h3])
        clear hm
        rw [R.out]
        go_enter Try.func34, Try.ntmps34
        go_wp2_with fail
        refine (Hch.out _ (HF.out _)).mono ?_
        rintro e w2 ⟨rfl, hf2⟩
        have HF2 := Lib.hid ((HF.out _).trans' hf2)
        clear hf2
        go_wp2
        go_ret
        exact ⟨rfl, HF2.out⟩

def k12 : Dr := mkDr 1 2 (.slice none 0 0) []
def k11 : Dr := mkDr 1 1 (.slice none 0 0) []
def k0 (g : Nat) : Dr := mkDr 0 0 (.slice (some ⟨g, 0, none⟩) 2 2) [0, 2]
theorem known1 (g : Nat) : ago 0 2 ⟨5, [], [k12, k0 g], []⟩ = ⟨5, [], [k12, k0 g], []⟩ := by rfl
theorem known1l (g : Nat) : alate 0 [] [k12, k0 g] [] = [k12, k0 g] := by rfl
theorem known2 (g : Nat) : ago 0 5 ⟨5, [], [k12, k0 g, k11, k12, k11], []⟩ = ⟨8, [1, 2], [k12, k11], [(5, k11), (6, k12), (7, { k0 g with q := 1 })]⟩ := by rfl
theorem known2l : alate 0 [1, 2] [k12, k11] [] = [] := by rfl

theorem rd_zero (w : World) (size : Nat) : Rd w size (.slice none 0 0) 0 [] := ⟨by simp, none, 0, rfl, Nat.le_refl _, by simp [maxLen], fun _ => rfl, fun h => absurd h (Nat.lt_irrefl _)⟩
theorem rd_blk {w : World} {g n size : Nat} {cs : Array Value} {xs : List Value} {E : TypeId} (h : w.heap[g]? = some (.cells cs E (0, 0))) (hx : xs.length = n * size := by rfl) (hc : cs.toList = xs := by rfl) (hn : n ≤ 1000000 := by decide) : Rd w size (.slice (some ⟨g, 0, none⟩) n n) n xs := by
  subst hc
  refine ⟨hx, _, n, rfl, Nat.le_refl _, by unfold maxLen; omega, by simp, fun _ => ⟨g, 0, rfl, fun j u hj => cell_of_block h (by simpa using hj)⟩⟩
theorem rd_none (w : World) (size : Nat) (so : Option Addr) (sc : Nat) (h1 : sc ≤ maxLen) (h2 : so = none → sc = 0) : Rd w size (.slice so 0 sc) 0 [] := ⟨by simp, so, sc, rfl, Nat.zero_le _, h1, h2, fun h => absurd h (Nat.lt_irrefl _)⟩
theorem k12_ok (w : World) : DrOk w k12 := rd_zero _ _
theorem k11_ok (w : World) : DrOk w k11 := rd_zero _ _
end Go.Proofs.Ytlohbikkhojlaaa
