/- The walk of the law VecAll. -/
import Derived.Test.YtdepenibifbcpaaDoorVup
import Derived.Test.YtdepenibifbcpaaDoorOpen2
namespace Go.XL
open Go.RowKit Go.Shelf
set_option linter.unusedVariables false
set_option linter.unusedSimpArgs false
theorem vallF_first (xs : List Int) : ∀ (n p : Nat) (x : Nat × Int) (s : List (Nat × Int)), xs.length - p = n → vallF (xs.drop p) p = x :: s →
    p ≤ x.1 ∧ x.1 < xs.length ∧ xs[x.1]? = some x.2 ∧ x.2 ≠ 0 ∧ (∀ j, p ≤ j → j < x.1 → xs[j]? = some 0) ∧ vallF (xs.drop (x.1 + 1)) (x.1 + 1) = s := by
  intro n
  induction n with
  | zero =>
    intro p x s hn h
    rw [List.drop_eq_nil_of_le (by omega)] at h
    cases h
  | succ n ih =>
    intro p x s hn h
    have hp : p < xs.length := by omega
    obtain ⟨y, hy⟩ : ∃ y, xs[p]? = some y := ⟨xs[p], by simp [hp]⟩
    by_cases h0 : y = 0
    · subst h0
      rw [vallF_zero hy] at h
      obtain ⟨h1, h2, h3, h4, h5, h6⟩ := ih (p + 1) x s (by omega) h
      refine ⟨by omega, h2, h3, h4, fun j hj1 hj2 => ?_, h6⟩
      by_cases e : j = p
      · rw [e]; exact hy
      · exact h5 j (by omega) hj2
    · rw [vallF_some hy h0] at h
      injection h with h1 h2
      subst h1
      exact ⟨Nat.le_refl _, hp, hy, h0, fun j hj1 hj2 => by dsimp only at hj2; omega, h2⟩
theorem vallF_none (xs : List Int) : ∀ (n p : Nat), xs.length - p = n → vallF (xs.drop p) p = [] → ∀ j, p ≤ j → j < xs.length → xs[j]? = some 0 := by
  intro n
  induction n with
  | zero => intro p hn h j h1 h2; omega
  | succ n ih =>
    intro p hn h j h1 h2
    have hp : p < xs.length := by omega
    obtain ⟨y, hy⟩ : ∃ y, xs[p]? = some y := ⟨xs[p], by simp [hp]⟩
    by_cases h0 : y = 0
    · subst h0
      rw [vallF_zero hy] at h
      by_cases e : j = p
      · rw [e]; exact hy
      · exact ih (p + 1) (by omega) h j (by omega) h2
    · rw [vallF_some hy h0] at h
      cases h
/-- the number in a cell -/
def cellNat (w : World) (g : Nat) : Nat := match w.cell? ⟨g, 0, none⟩ with | some (.int _ n) => n.toNat | _ => 0
theorem cellNat_of {w : World} {g : Nat} {n : Nat} {E : TypeId} (h : w.heap[g]? = some (.cells #[.int .i64 (n : Int)] E (0, 0))) : cellNat w g = n := by
  unfold cellNat
  rw [cell_of_block (j := 0) h rfl]
  simp
end Go.XL
namespace Go.Proofs.YtdepenibifbcpaaDoor
open Go.RowKit Go.Shelf Go.XL Go.ChangeShapes Go.WideShapes Go.ChangeAt
set_option linter.unusedVariables false
set_option linter.unusedSimpArgs false
attribute [local go_sem] Oper.semAt_some
theorem law_few (ao : Option Addr) (n cap : Nat) (w : World) (hn : n ≤ cap) (hc : cap ≤ 9223372036854775807) : Calls Tryd.prog 9 #[.slice ao n cap] w fun e w' => e = .returned (.bool (decide (n ≤ 70))) ∧ w = w' := by
  by_cases h : n ≤ 70
  · rw [decide_eq_true h]
    have hd : decide ((n : Int) ≤ 70) = true := decide_eq_true (by omega)
    go_enter Tryd.func9, Tryd.ntmps9
    go_wp2
    go_ret
    exact ⟨rfl, rfl⟩
  · rw [decide_eq_false h]
    have hd : decide ((n : Int) ≤ 70) = false := decide_eq_false (by omega)
    go_enter Tryd.func9, Tryd.ntmps9
    go_wp2
    go_ret
    exact ⟨rfl, rfl⟩
theorem all_res (tmps : Array Value) (c1 : Nat) (w : World) (v1 : Value) (h1 : tmps[4]? = some (.pointer (some ⟨c1, 0, none⟩)))
    (g1 : w.cell? ⟨c1, 0, none⟩ = some v1) : (results Tryd.f3 tmps).run Tryd.prog w = .ok v1 w := by
  simp [results, Tryd.results3, go_sem, h1, g1]
/-- memory between two rounds of VecAll: b the arguments' boxes and the result's, gx the iterator's box, gx + 1 the count, gx + 2 the place -/
structure AlI (w : World) (v : Value) (most : Int) (xs : List Int) (gx : Nat) (p m : Nat) (W : World) : Prop where
  vb : W.heap[w.heap.size]? = some (.cells #[v] 22 (0, 0))
  mo : W.heap[w.heap.size + 1]? = some (.cells #[.int .u8 most] 5 (0, 0))
  r : W.heap[w.heap.size + 2]? = some (.cells #[.bool false] 4 (0, 0))
  bx : W.heap[gx]? = some (.cells #[v] 30 (0, 0))
  n : W.heap[gx + 1]? = some (.cells #[.int .i64 (m : Int)] 3 (0, 0))
  at_ : W.heap[gx + 2]? = some (.cells #[.int .i64 (p : Int)] 3 (0, 0))
  fr : Fr no w W
theorem AlI.bk {w : World} {v : Value} {most : Int} {xs : List Int} {gx p m B : Nat} {W W' : World} (h : AlI w v most xs gx p m W) (hb : Bk B W W') (hB : w.heap.size ≤ B) : AlI w v most xs gx p m W' :=
  ⟨hb.heap h.vb rfl, hb.heap h.mo rfl, hb.heap h.r rfl, hb.heap h.bx rfl, hb.heap h.n rfl, hb.heap h.at_ rfl, hb.fr h.fr hB⟩
theorem AlI.setAt {w : World} {v : Value} {most : Int} {xs : List Int} {gx p m : Nat} {W : World} (h : AlI w v most xs gx p m W) (hgx : w.heap.size + 3 ≤ gx) (q : Nat) : AlI w v most xs gx q m (W.setCell ⟨gx + 2, 0, none⟩ (.int .i64 (q : Int))) := by
  have hf : Fr (fun i => i = gx + 2) W (W.setCell ⟨gx + 2, 0, none⟩ (.int .i64 (q : Int))) := (Fr.refl (fun i => i = gx + 2) W).setCell (p := ⟨gx + 2, 0, none⟩) (fun _ => rfl) _
  exact ⟨hf.heap h.vb (by omega), hf.heap h.mo (by omega), hf.heap h.r (by omega), hf.heap h.bx (by omega), hf.heap h.n (by omega), heap_setC (j := 0) _ h.at_, h.fr.trans hf (fun i hi e => by omega)⟩
theorem AlI.setN {w : World} {v : Value} {most : Int} {xs : List Int} {gx p m : Nat} {W : World} (h : AlI w v most xs gx p m W) (hgx : w.heap.size + 3 ≤ gx) (q : Nat) : AlI w v most xs gx p q (W.setCell ⟨gx + 1, 0, none⟩ (.int .i64 (q : Int))) := by
  have hf : Fr (fun i => i = gx + 1) W (W.setCell ⟨gx + 1, 0, none⟩ (.int .i64 (q : Int))) := (Fr.refl (fun i => i = gx + 1) W).setCell (p := ⟨gx + 1, 0, none⟩) (fun _ => rfl) _
  exact ⟨hf.heap h.vb (by omega), hf.heap h.mo (by omega), hf.heap h.r (by omega), hf.heap h.bx (by omega), heap_setC (j := 0) _ h.n, hf.heap h.at_ (by omega), h.fr.trans hf (fun i hi e => by omega)⟩
def AlS (w : World) (v : Value) (most : Int) (xs : List Int) (gx : Nat) (s : List (Nat × Int)) (W : World) : Prop :=
  ∃ p m : Nat, p ≤ xs.length ∧ (m : Int) ≤ most ∧ vallF (xs.drop p) p = s ∧ AlI w v most xs gx p m W
def AlX (w : World) (c : Code) (W : World) : Prop := c = .ret ∧ W.heap[w.heap.size + 2]? = some (.cells #[.bool true] 4 (0, 0)) ∧ Fr no w W

set_option maxRecDepth 100000 in
set_option maxHeartbeats 4000000 in
theorem vecAll_any (v1 : Value) (xs : List Int) (most : Int) (w : World) (hG : Gl w) (h1 : IntsAt w v1 xs) (hm0 : 0 ≤ most) (hm1 : most ≤ 255) :
    Calls Tryd.prog 3 #[v1, .int .u8 most] w fun e w' => e = .returned (.bool true) ∧ Fr no w w' := by
  obtain ⟨ao, cap, rfl, hcap, hmx⟩ := h1.cap
  obtain ⟨w3, hw3⟩ : ∃ w3, ((w.alloc (.cells #[.slice ao xs.length cap] 22)).alloc (.cells #[.int .u8 most] 5)).alloc (.cells #[.bool false] 4) = w3 := ⟨_, rfl⟩
  have hf3 : Fr no w w3 := by rw [← hw3]; exact (((Fr.refl no w).alloc _).alloc _).alloc _
  have hb0 : w3.heap[w.heap.size]? = some (.cells #[.slice ao xs.length cap] 22 (0, 0)) := by rw [← hw3]; simp only [alloc_get, World.size_alloc, Nat.add_assoc]; simp
  have hb1 : w3.heap[w.heap.size + 1]? = some (.cells #[.int .u8 most] 5 (0, 0)) := by rw [← hw3]; simp only [alloc_get, World.size_alloc, Nat.add_assoc]; simp
  have hb2 : w3.heap[w.heap.size + 2]? = some (.cells #[.bool false] 4 (0, 0)) := by rw [← hw3]; simp only [alloc_get, World.size_alloc, Nat.add_assoc]; simp
  have hs3 : w.heap.size + 3 ≤ w3.heap.size := by rw [← hw3]; simp
  have hk := vknown w3 (hG.fr hf3)
  have H : Hid (Rd w 1 (.slice ao xs.length cap) xs.length (xs.map (Value.int .i64))) := Lib.hid h1
  have HF3 := Lib.hid hf3
  have HB0 := Lib.hid hb0
  have HB1 := Lib.hid hb1
  have HB2 := Lib.hid hb2
  have HW3 := Lib.hid hw3
  clear h1 hf3 hb0 hb1 hb2 hw3 hG
  generalize hn : xs.length = n at *
  have Hn := Lib.hid hn
  clear hn
  refine calls_of_in (n := 4) free_wide (callsIn_of_wp_marks Tryd.func3 rfl trivial (wpIn_wide.2 ?_) rfl)
  simp only [Tryd.ntmps3, List.size_toArray, List.length_cons, List.length_nil, Nat.reduceAdd, Nat.reduceSub, Array.replicate_succ, Array.replicate_zero, List.push_toArray, List.append_toArray, List.nil_append, List.cons_append]
  go_upto_region 1 with (fail)
  rw [HW3.out]
  clear HW3
  go_wp2_with fail
  refine hk.mono ?_
  clear hk
  rintro e w4 ⟨rfl, hf4⟩
  replace HF3 := Lib.hid (HF3.out.trans' hf4)
  replace HB0 := Lib.hid (hf4.heap HB0.out (fun f => f))
  replace HB1 := Lib.hid (hf4.heap HB1.out (fun f => f))
  replace HB2 := Lib.hid (hf4.heap HB2.out (fun f => f))
  have hs4 : w.heap.size + 3 ≤ w4.heap.size := Nat.le_trans hs3 hf4.size
  clear hf4 hs3
  have q0 := cell_of_block (j := 0) HB0.out rfl
  have q2 := cell_of_block (j := 0) HB2.out rfl
  have z2 := frozen_of_block (j := 0) HB2.out
  have hfw := law_few ao n cap w4 hcap hmx
  by_cases h70 : n ≤ 70
  · rw [decide_eq_true h70] at hfw
    go_wp2_with fail
    refine hfw.mono ?_
    clear hfw
    rintro e w' ⟨rfl, rfl⟩
    have hal := vec_all ao n cap w4
    go_wp2_with fail
    refine hal.mono ?_
    clear hal
    rintro e w5 ⟨rfl, hw5⟩
    obtain ⟨w7, hw7⟩ : ∃ w7, (w5.alloc (.cells #[.int .i64 0] 3)).alloc (.cells #[.int .i64 0] 3) = w7 := ⟨_, rfl⟩
    obtain ⟨gx, hgx⟩ : ∃ gx, w4.heap.size = gx := ⟨_, rfl⟩
    have hs5 : w5.heap.size = gx + 1 := by rw [← hw5, ← hgx]; simp
    have hf7 : Fr no w4 w7 := by rw [← hw7, ← hw5]; exact (((Fr.refl no w4).alloc _).alloc _).alloc _
    have hI : AlI w (.slice ao n cap) most xs gx 0 0 w7 := by
      refine ⟨hf7.heap HB0.out (fun f => f), hf7.heap HB1.out (fun f => f), hf7.heap HB2.out (fun f => f), ?_, ?_, ?_, HF3.out.trans' hf7⟩
      · rw [← hw7]; simp only [alloc_get, World.size_alloc, hs5]; rw [if_neg (by omega), if_neg (by omega), ← hw5, ← hgx]; exact World.alloc_heap_new _ _
      · rw [← hw7]; simp only [alloc_get, World.size_alloc, hs5, Nat.add_assoc]; simp
      · rw [← hw7]; simp only [alloc_get, World.size_alloc, hs5, Nat.add_assoc]; simp
    have hS0 : AlS w (.slice ao n cap) most xs gx (vallF xs 0) w7 := ⟨0, 0, Nat.zero_le _, hm0, by simp, hI⟩
    have hs7 : w.heap.size ≤ w7.heap.size := hI.fr.size
    have HS0 := Lib.hid hS0
    have HW7 := Lib.hid hw7
    have hg3 : w.heap.size + 3 ≤ gx := by omega
    clear hI hS0 hf7 hw7 hw5 q0 q2 z2 HB0 HB1 HB2 HF3
    have hnn := all_not_nil ⟨gx, 0, none⟩
    go_upto_region 10 with (fail)
    rw [HW7.out]
    clear hnn HW7 hs5 hgx hs4
    go_wp2
    refine (wpIn_wide (n := 3)).1 ?_
    refine wpIn_each (ls := vallF xs 0) rfl (by intro h; cases h) (gf := 24) (lb := #[.pointer (some ⟨gx, 0, none⟩)]) rfl trivial (enters_of Tryd.func24 (by kernel_rfl) rfl)
      (all_iter gx (.slice ao n cap) xs) (fun _ => rfl) (AlS w (.slice ao n cap) most xs gx) (AlX w)
      ?hI ?hIx ?hPre HS0.out ?round ?done ?stop
    case hI => exact fun s W W' ⟨p, m, h1, h2, h3, h4⟩ hb => ⟨p, m, h1, h2, h3, h4.bk hb (by omega)⟩
    case hIx => exact fun s W W' h hb => ⟨h.1, hb.heap h.2.1 rfl, hb.fr h.2.2 (by omega)⟩
    case hPre => exact fun s W ⟨p, m, h1, h2, h3, h4⟩ => ⟨cell_of_block h4.bx rfl, by have := H.out.fr h4.fr (fun _ _ _ f => f); unfold IntsAt; rw [Hn.out]; exact this⟩
    case round =>
      rintro l W x s ⟨p, m, h1, h2, h3, h4⟩
      gi_wp2
      refine ⟨Kb.refl _, fun l W' hb hl => ?_⟩
      have h4' := h4.bk hb (by omega)
      obtain ⟨x1, x2, x3, x4, x5, x6⟩ := vallF_first xs _ p x s rfl h3
      rw [Hn.out] at x2
      have X3 := Lib.hid x3
      have X5 := Lib.hid x5
      have X6 := Lib.hid x6
      have H4 := Lib.hid h4'
      have hx0 : (x.2 != 0) = true := by simpa using x4
      clear hb h4 h4' h3 x3 x5 x6 h1
      gi_wp2
      gi_loopw [] (fun wr => ∃ q : Nat, p ≤ q ∧ q ≤ x.1 ∧ Hid (AlI w (.slice ao n cap) most xs gx q m wr) ∧ Hid (Kb W' wr)) (fun wr => n - cellNat wr (gx + 2))
      case atStart => exact ⟨p, Nat.le_refl _, x1, H4, Lib.hid (Kb.refl _)⟩
      case round =>
        obtain ⟨q, hq1, hq2, hI, hKb⟩ := hrel
        generalize wr = V at *
        obtain ⟨g, off, c', he, _, _, hx⟩ := H.out.form (by omega)
        cases he
        have ca : V.cell? ⟨gx + 1 + 1, 0, none⟩ = some (.int .i64 (q : Int)) := cell_of_block hI.out.at_ rfl
        have fa : V.frozen? ⟨gx + 1 + 1, 0, none⟩ = false := frozen_of_block hI.out.at_
        have cv : V.cell? ⟨w.heap.size, 0, none⟩ = some (.slice (some ⟨g, off, none⟩) n cap) := cell_of_block hI.out.vb rfl
        have hqn : q < n := by omega
        by_cases hlt : q < x.1
        · have c0 : V.cell? ⟨g, off + q, none⟩ = some (.int .i64 0) := hI.out.fr.cell (hx q _ (by simp [X5.out q hq1 hlt])) (fun f => f)
          have hI2 := hI.out.setAt hg3 (q + 1)
          have HK2 := Lib.hid (hKb.out.trans (Kb.setCell V ⟨gx + 1 + 1, 0, none⟩ (.int .i64 ((q : Int) + 1))))
          have HM : Hid (cellNat V (gx + 2) = q) := Lib.hid (cellNat_of hI.out.at_)
          have HM2 : Hid (cellNat (V.setCell ⟨gx + 1 + 1, 0, none⟩ (.int .i64 ((q : Int) + 1))) (gx + 2) = q + 1) := Lib.hid (cellNat_of (by have := hI2.at_; push_cast at this ⊢; exact this))
          have HI2 : Hid (AlI w (.slice (some ⟨g, off, none⟩) n cap) most xs gx (q + 1) m (V.setCell ⟨gx + 1 + 1, 0, none⟩ (.int .i64 ((q : Int) + 1)))) := Lib.hid (by push_cast at hI2; exact hI2)
          clear hx hI hI2 hKb
          gi_wp2
          go_roundw
          case rel => exact ⟨q + 1, by omega, by omega, HI2, HK2⟩
          case measure => rw [HM.out, HM2.out]; omega
        · have hqx : x.1 = q := by omega
          have c0 : V.cell? ⟨g, off + q, none⟩ = some (.int .i64 x.2) := hI.out.fr.cell (hx q _ (by rw [← hqx]; simp [X3.out])) (fun f => f)
          have hm' : (m : Int) + 1 ≤ 256 := by omega
          have hix : ((x.1 : Int) != (q : Int)) = false := by rw [hqx]; simp
          have hxx : (x.2 != x.2) = false := by simp
          have hz0 : (x.2 == 0) = false := by simpa using x4
          have cn : V.cell? ⟨gx + 1, 0, none⟩ = some (.int .i64 (m : Int)) := cell_of_block hI.out.n rfl
          have fn : V.frozen? ⟨gx + 1, 0, none⟩ = false := frozen_of_block hI.out.n
          have cm : V.cell? ⟨w.heap.size + 1, 0, none⟩ = some (.int .u8 most) := cell_of_block hI.out.mo rfl
          have cr : V.cell? ⟨w.heap.size + 1 + 1, 0, none⟩ = some (.bool false) := cell_of_block hI.out.r rfl
          have fr' : V.frozen? ⟨w.heap.size + 1 + 1, 0, none⟩ = false := frozen_of_block hI.out.r
          obtain ⟨V1, hV1⟩ : ∃ V1, V.setCell ⟨gx + 1 + 1, 0, none⟩ (.int .i64 ((q : Int) + 1)) = V1 := ⟨_, rfl⟩
          have hI1 : AlI w (.slice (some ⟨g, off, none⟩) n cap) most xs gx (q + 1) m V1 := by have := hI.out.setAt hg3 (q + 1); push_cast at this; rw [← hV1]; exact this
          have hK1 : Kb W' V1 := by rw [← hV1]; exact hKb.out.trans (Kb.setCell _ _ _)
          have cn1 : V1.cell? ⟨gx + 1, 0, none⟩ = some (.int .i64 (m : Int)) := cell_of_block hI1.n rfl
          have fn1 : V1.frozen? ⟨gx + 1, 0, none⟩ = false := frozen_of_block hI1.n
          obtain ⟨V2, hV2⟩ : ∃ V2, V1.setCell ⟨gx + 1, 0, none⟩ (.int .i64 ((m : Int) + 1)) = V2 := ⟨_, rfl⟩
          have hI2 : AlI w (.slice (some ⟨g, off, none⟩) n cap) most xs gx (q + 1) (m + 1) V2 := by have := hI1.setN hg3 (m + 1); push_cast at this; rw [← hV2]; exact this
          have hK2 : Kb W' V2 := by rw [← hV2]; exact hK1.trans (Kb.setCell _ _ _)
          have cn2 : V2.cell? ⟨gx + 1, 0, none⟩ = some (.int .i64 ((m : Int) + 1)) := by have := cell_of_block (j := 0) hI2.n rfl; push_cast at this; exact this
          have cm2 : V2.cell? ⟨w.heap.size + 1, 0, none⟩ = some (.int .u8 most) := cell_of_block hI2.mo rfl
          have cr2 : V2.cell? ⟨w.heap.size + 1 + 1, 0, none⟩ = some (.bool false) := cell_of_block hI2.r rfl
          have fr2 : V2.frozen? ⟨w.heap.size + 1 + 1, 0, none⟩ = false := frozen_of_block hI2.r
          have HI2 := Lib.hid hI2
          have HK2 := Lib.hid hK2
          have Hqx := Lib.hid hqx
          clear hx hI hKb hI1 hK1 hI2 hK2 hqx cn fn cm cr fr'
          by_cases hmm : most < (m : Int) + 1
          · gi_wp2
            refine ⟨HK2.out.trans (Kb.setCell _ _ _), rfl, heap_setC (j := 0) _ HI2.out.r, HI2.out.fr.setCell (p := ⟨w.heap.size + 2, 0, none⟩) (fun h => by simp at h; omega) _⟩
          · gi_wp2
            exact ⟨HK2.out, q + 1, m + 1, by rw [Hn.out]; omega, by push_cast; omega, by rw [← Hqx.out]; exact X6.out, HI2.out⟩
    case done =>
      rintro D W hD ⟨p, m, h1, h2, h3, h4⟩ hd
      have hnone := vallF_none xs _ p rfl h3
      rw [Hn.out] at hnone h1
      have HN := Lib.hid hnone
      have H4 := Lib.hid h4
      have Hd := Lib.hid hd
      clear hnone h4 hd h3 h2
      go_wp2
      go_loopw [] (fun wr => ∃ q : Nat, p ≤ q ∧ q ≤ n ∧ Hid (AlI w (.slice ao n cap) most xs gx q m wr) ∧ Hid (wr.heap[D]? = some (.deferred (some [])))) (fun wr => n - cellNat wr (gx + 2))
      case atStart => exact ⟨p, Nat.le_refl _, h1, H4, Hd⟩
      case round =>
        obtain ⟨q, hq1, hq2, hI, hKb⟩ := hrel
        generalize wr = V at *
        have ca : V.cell? ⟨gx + 1 + 1, 0, none⟩ = some (.int .i64 (q : Int)) := cell_of_block hI.out.at_ rfl
        have fa : V.frozen? ⟨gx + 1 + 1, 0, none⟩ = false := frozen_of_block hI.out.at_
        have cv : V.cell? ⟨w.heap.size, 0, none⟩ = some (.slice ao n cap) := cell_of_block hI.out.vb rfl
        have cr : V.cell? ⟨w.heap.size + 1 + 1, 0, none⟩ = some (.bool false) := cell_of_block hI.out.r rfl
        have fr' : V.frozen? ⟨w.heap.size + 1 + 1, 0, none⟩ = false := frozen_of_block hI.out.r
        have hDa : D ≠ gx + 1 + 1 := by rintro rfl; have := hI.out.at_; rw [hKb.out] at this; cases this
        have hDr : D ≠ w.heap.size + 1 + 1 := by rintro rfl; have := hI.out.r; rw [hKb.out] at this; cases this
        by_cases hlt : q < n
        · obtain ⟨g, off, c', he, _, _, hx⟩ := H.out.form (by omega)
          cases he
          have c0 : V.cell? ⟨g, off + q, none⟩ = some (.int .i64 0) := hI.out.fr.cell (hx q _ (by simp [HN.out q hq1 hlt])) (fun f => f)
          have hI2 := hI.out.setAt hg3 (q + 1)
          have HK2 : Hid ((V.setCell ⟨gx + 1 + 1, 0, none⟩ (.int .i64 ((q : Int) + 1))).heap[D]? = some (.deferred (some []))) := Lib.hid ((Below.heap_setCell _ _ _ _ hDa).trans hKb.out)
          have HM : Hid (cellNat V (gx + 2) = q) := Lib.hid (cellNat_of hI.out.at_)
          have HM2 : Hid (cellNat (V.setCell ⟨gx + 1 + 1, 0, none⟩ (.int .i64 ((q : Int) + 1))) (gx + 2) = q + 1) := Lib.hid (cellNat_of (by have := hI2.at_; push_cast at this ⊢; exact this))
          have HI2 : Hid (AlI w (.slice (some ⟨g, off, none⟩) n cap) most xs gx (q + 1) m (V.setCell ⟨gx + 1 + 1, 0, none⟩ (.int .i64 ((q : Int) + 1)))) := Lib.hid (by push_cast at hI2; exact hI2)
          clear hx hI hI2 hKb
          go_wp2
          go_roundw
          case rel => exact ⟨q + 1, by omega, by omega, HI2, HK2⟩
          case measure => rw [HM.out, HM2.out]; omega
        · have hqn : q = n := by omega
          subst hqn
          clear H HN
          go_wp2
          refine leaveOne D rfl ((Below.heap_setCell _ _ _ _ hDr).trans hKb.out) (fun Wf hbf => ?_)
          exact ⟨_, all_res _ (w.heap.size + 2) _ _ rfl (cell_of_block (hbf.heap (heap_setC (j := 0) _ hI.out.r) rfl) rfl), rfl, hbf.fr (hI.out.fr.setCell (p := ⟨w.heap.size + 2, 0, none⟩) (fun h => by simp at h; omega) _) (by omega)⟩
    case stop =>
      rintro D c W hD ⟨rfl, g2, g4⟩ hd
      refine wpIn_ret ?_
      refine leaveOne D rfl hd (fun Wf hbf => ?_)
      exact ⟨_, all_res _ (w.heap.size + 2) _ _ rfl (cell_of_block (hbf.heap g2 rfl) rfl), rfl, hbf.fr g4 (by omega)⟩
  · rw [decide_eq_false h70] at hfw
    go_wp2_with fail
    refine hfw.mono ?_
    clear hfw
    rintro e w' ⟨rfl, rfl⟩
    have hset := heap_setC (j := 0) (.bool true) HB2.out
    have Hset := Lib.hid hset
    clear hset
    go_wp2
    exact leave0 rfl (all_res _ (w.heap.size + 2) _ (.bool true) rfl (cell_of_block Hset.out rfl)) ⟨rfl, HF3.out.setCell (p := ⟨w.heap.size + 2, 0, none⟩) (fun h => by simp at h; omega) _⟩
set_option maxRecDepth 100000 in
theorem vecAll_row {H : Type} {enc : TypeId × Value → H} (v0 : Value) (b : Int) {d0 : DataW H} {p0 : List MemPlace} {base : Nat} (w : World) (hG : Gl w)
    (ok0 : Value.okWide Tryd.prog w .any base 22 v0) (h0 : DataW.Trod enc Tryd.prog w 0 (fun _ => true) true 22 v0 d0 p0) (hb : (Lit.int .u8 b).wf = true) :
    Calls Tryd.prog 3 #[v0, .int .u8 b] w fun e w' => e = .returned (.bool true) ∧ Below w.heap.size w w' := by
  obtain ⟨a, ra, wa⟩ := ints_open (k := .i64) Tryd.underlying22 Tryd.underlying3 (by kernel_rfl) ok0 h0
  refine (vecAll_any v0 a b w hG ra (bounds_u8 hb).1 (bounds_u8 hb).2).mono ?_
  rintro e w' ⟨he, hf⟩
  exact ⟨he, hf.below⟩
end Go.Proofs.YtdepenibifbcpaaDoor
