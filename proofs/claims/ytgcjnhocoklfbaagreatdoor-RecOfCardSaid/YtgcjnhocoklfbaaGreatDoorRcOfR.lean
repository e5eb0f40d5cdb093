/- The walk of the law RecOf. -/
import Derived.Test.YtgcjnhocoklfbaaGreatDoorRcA
import Derived.Test.YtgcjnhocoklfbaaGreatDoorRc9
import Derived.Test.YtgcjnhocoklfbaaGreatDoorVup
namespace Go.XL
open Go.RowKit Go.Shelf
set_option linter.unusedVariables false
set_option linter.unusedSimpArgs false
theorem rof_first (site : Int) (ls : List Rc) : ∀ (n p : Nat) (x : Nat × Rc) (s : List (Nat × Rc)), ls.length - p = n → rof site (ls.drop p) p = x :: s →
    p ≤ x.1 ∧ x.1 < ls.length ∧ ls[x.1]? = some x.2 ∧ x.2.s = site ∧ (∀ j, p ≤ j → j < x.1 → ∃ y, ls[j]? = some y ∧ y.s ≠ site) ∧ rof site (ls.drop (x.1 + 1)) (x.1 + 1) = s := by
  intro n
  induction n with
  | zero =>
    intro p x s hn h
    rw [List.drop_eq_nil_of_le (by omega)] at h
    cases h
  | succ n ih =>
    intro p x s hn h
    have hp : p < ls.length := by omega
    obtain ⟨y, hy⟩ : ∃ y, ls[p]? = some y := ⟨ls[p], by simp [hp]⟩
    rw [rof_drop hy] at h
    by_cases h0 : y.s = site
    · rw [if_pos h0] at h
      injection h with h1 h2
      subst h1
      exact ⟨Nat.le_refl _, hp, hy, h0, fun j hj1 hj2 => by dsimp only at hj2; omega, h2⟩
    · rw [if_neg h0] at h
      obtain ⟨h1, h2, h3, h4, h5, h6⟩ := ih (p + 1) x s (by omega) h
      refine ⟨by omega, h2, h3, h4, fun j hj1 hj2 => ?_, h6⟩
      by_cases e : j = p
      · rw [e]; exact ⟨y, hy, h0⟩
      · exact h5 j (by omega) hj2
theorem rof_none (site : Int) (ls : List Rc) : ∀ (n p : Nat), ls.length - p = n → rof site (ls.drop p) p = [] → ∀ j, p ≤ j → j < ls.length → ∃ y, ls[j]? = some y ∧ y.s ≠ site := by
  intro n
  induction n with
  | zero => intro p hn h j h1 h2; omega
  | succ n ih =>
    intro p hn h j h1 h2
    have hp : p < ls.length := by omega
    obtain ⟨y, hy⟩ : ∃ y, ls[p]? = some y := ⟨ls[p], by simp [hp]⟩
    rw [rof_drop hy] at h
    by_cases h0 : y.s = site
    · rw [if_pos h0] at h; cases h
    · rw [if_neg h0] at h
      by_cases e : j = p
      · rw [e]; exact ⟨y, hy, h0⟩
      · exact ih (p + 1) (by omega) h j (by omega) h2
/-- the number in a cell -/
def cellNat (w : World) (g : Nat) : Nat := match w.cell? ⟨g, 0, none⟩ with | some (.int _ n) => n.toNat | _ => 0
theorem cellNat_of {w : World} {g : Nat} {n : Nat} {E : TypeId} (h : w.heap[g]? = some (.cells #[.int .i64 (n : Int)] E (0, 0))) : cellNat w g = n := by
  unfold cellNat
  rw [cell_of_block (j := 0) h rfl]
  simp
theorem same_self (r : Rc) : sameC r r = true := by
  have h : vcov r.dep r.dep = true := (vcov_all _ _).2 fun j => Int.le_refl _
  unfold sameC
  rw [h]
  simp
end Go.XL
namespace Go.Proofs.YtgcjnhocoklfbaaGreatDoor
open Go.RowKit Go.Shelf Go.XL Go.ChangeShapes Go.WideShapes Go.ChangeAt
set_option linter.unusedVariables false
set_option linter.unusedSimpArgs false
attribute [local go_sem] Oper.semAt_some
theorem rof_res (tmps : Array Value) (c1 : Nat) (w : World) (v1 : Value) (h1 : tmps[6]? = some (.pointer (some ⟨c1, 0, none⟩)))
    (g1 : w.cell? ⟨c1, 0, none⟩ = some v1) : (results Tryz.f5 tmps).run Tryz.prog w = .ok v1 w := by
  simp [results, Tryz.results5, go_sem, h1, g1]
/-- memory between two rounds of RecOf: the arguments' boxes and the result's behind w, gx, gx + 1 the iterator's boxes, gx + 2 the place, gx + 3 the count -/
structure RoI (w : World) (v : Value) (site most : Int) (gx : Nat) (p m : Nat) (W : World) : Prop where
  vb : W.heap[w.heap.size]? = some (.cells #[v] 41 (0, 0))
  sb : W.heap[w.heap.size + 1]? = some (.cells #[.int .i64 site] 3 (0, 0))
  mo : W.heap[w.heap.size + 2]? = some (.cells #[.int .u8 most] 5 (0, 0))
  r : W.heap[w.heap.size + 3]? = some (.cells #[.bool false] 4 (0, 0))
  bx : W.heap[gx]? = some (.cells #[v] 41 (0, 0))
  bs : W.heap[gx + 1]? = some (.cells #[.int .i64 site] 3 (0, 0))
  at_ : W.heap[gx + 2]? = some (.cells #[.int .i64 (p : Int)] 3 (0, 0))
  n : W.heap[gx + 3]? = some (.cells #[.int .i64 (m : Int)] 3 (0, 0))
  fr : Fr no w W
variable {w : World} {v : Value} {site most : Int} {gx p m B : Nat} {W W' : World}
theorem RoI.bk (h : RoI w v site most gx p m W) (hb : Bk B W W') (hB : w.heap.size ≤ B) : RoI w v site most gx p m W' :=
  ⟨hb.heap h.vb rfl, hb.heap h.sb rfl, hb.heap h.mo rfl, hb.heap h.r rfl, hb.heap h.bx rfl, hb.heap h.bs rfl, hb.heap h.at_ rfl, hb.heap h.n rfl, hb.fr h.fr hB⟩
theorem RoI.kp (h : RoI w v site most gx p m W) (hb : Fr no W W') : RoI w v site most gx p m W' :=
  ⟨hb.heap h.vb (fun f => f), hb.heap h.sb (fun f => f), hb.heap h.mo (fun f => f), hb.heap h.r (fun f => f), hb.heap h.bx (fun f => f), hb.heap h.bs (fun f => f), hb.heap h.at_ (fun f => f), hb.heap h.n (fun f => f), h.fr.trans' hb⟩
theorem RoI.setAt (h : RoI w v site most gx p m W) (hgx : w.heap.size + 4 ≤ gx) (q : Nat) : RoI w v site most gx q m (W.setCell ⟨gx + 2, 0, none⟩ (.int .i64 (q : Int))) := by
  have hf : Fr (fun i => i = gx + 2) W (W.setCell ⟨gx + 2, 0, none⟩ (.int .i64 (q : Int))) := (Fr.refl (fun i => i = gx + 2) W).setCell (p := ⟨gx + 2, 0, none⟩) (fun _ => rfl) _
  exact ⟨hf.heap h.vb (by omega), hf.heap h.sb (by omega), hf.heap h.mo (by omega), hf.heap h.r (by omega), hf.heap h.bx (by omega), hf.heap h.bs (by omega), heap_setC (j := 0) _ h.at_, hf.heap h.n (by omega), h.fr.trans hf (fun i hi e => by omega)⟩
theorem RoI.setN (h : RoI w v site most gx p m W) (hgx : w.heap.size + 4 ≤ gx) (q : Nat) : RoI w v site most gx p q (W.setCell ⟨gx + 3, 0, none⟩ (.int .i64 (q : Int))) := by
  have hf : Fr (fun i => i = gx + 3) W (W.setCell ⟨gx + 3, 0, none⟩ (.int .i64 (q : Int))) := (Fr.refl (fun i => i = gx + 3) W).setCell (p := ⟨gx + 3, 0, none⟩) (fun _ => rfl) _
  exact ⟨hf.heap h.vb (by omega), hf.heap h.sb (by omega), hf.heap h.mo (by omega), hf.heap h.r (by omega), hf.heap h.bx (by omega), hf.heap h.bs (by omega), hf.heap h.at_ (by omega), heap_setC (j := 0) _ h.n, h.fr.trans hf (fun i hi e => by omega)⟩
def RoS (w : World) (v : Value) (site most : Int) (ls : List Rc) (gx : Nat) (s : List (Nat × Rc)) (W : World) : Prop :=
  ∃ p m : Nat, p ≤ ls.length ∧ (m : Int) ≤ most ∧ rof site (ls.drop p) p = s ∧ RoI w v site most gx p m W
def RoX (w : World) (c : Code) (W : World) : Prop := c = .ret ∧ W.heap[w.heap.size + 3]? = some (.cells #[.bool true] 4 (0, 0)) ∧ Fr no w W
theorem kb_fr {W W' : World} (h : Fr no W W') : Kb W W' := Kb.of_below h.below

set_option maxRecDepth 100000 in
set_option maxHeartbeats 8000000 in
theorem recOf_any (v1 : Value) (ls : List Rc) (site most : Int) (w : World) (hG : GlU w) (h1 : RcsAt w v1 ls) (hok : ∀ r ∈ ls, RcOk w r) (hm0 : 0 ≤ most) (hm1 : most ≤ 255) :
    Calls Tryz.prog 5 #[v1, .int .i64 site, .int .u8 most] w fun e w' => e = .returned (.bool true) ∧ Fr no w w' := by
  obtain ⟨ao, cap, rfl, hcap, hmx⟩ := h1.cap
  obtain ⟨w3, hw3⟩ : ∃ w3, (((w.alloc (.cells #[.slice ao ls.length cap] 41)).alloc (.cells #[.int .i64 site] 3)).alloc (.cells #[.int .u8 most] 5)).alloc (.cells #[.bool false] 4) = w3 := ⟨_, rfl⟩
  have hf3 : Fr no w w3 := by rw [← hw3]; exact ((((Fr.refl no w).alloc _).alloc _).alloc _).alloc _
  have hb0 : w3.heap[w.heap.size]? = some (.cells #[.slice ao ls.length cap] 41 (0, 0)) := by rw [← hw3]; simp only [alloc_get, World.size_alloc, Nat.add_assoc]; simp
  have hb1 : w3.heap[w.heap.size + 1]? = some (.cells #[.int .i64 site] 3 (0, 0)) := by rw [← hw3]; simp only [alloc_get, World.size_alloc, Nat.add_assoc]; simp
  have hb2 : w3.heap[w.heap.size + 2]? = some (.cells #[.int .u8 most] 5 (0, 0)) := by rw [← hw3]; simp only [alloc_get, World.size_alloc, Nat.add_assoc]; simp
  have hb3 : w3.heap[w.heap.size + 3]? = some (.cells #[.bool false] 4 (0, 0)) := by rw [← hw3]; simp only [alloc_get, World.size_alloc, Nat.add_assoc]; simp
  have hs3 : w.heap.size + 4 ≤ w3.heap.size := by rw [← hw3]; simp
  have hk := rknown w3 (hG.fr hf3)
  have H : Hid (Rd w 5 (.slice ao ls.length cap) ls.length (rcCells ls)) := Lib.hid h1
  have HOK := Lib.hid hok
  have HF3 := Lib.hid hf3
  have HB0 := Lib.hid hb0
  have HB1 := Lib.hid hb1
  have HB2 := Lib.hid hb2
  have HB3 := Lib.hid hb3
  have HW3 := Lib.hid hw3
  clear h1 hok hf3 hb0 hb1 hb2 hb3 hw3 hG
  generalize hn : ls.length = n at *
  have Hn := Lib.hid hn
  clear hn
  refine calls_of_in (n := 4) free_wide (callsIn_of_wp_marks Tryz.func5 rfl trivial (wpIn_wide.2 ?_) rfl)
  simp only [Tryz.ntmps5, List.size_toArray, List.length_cons, List.length_nil, Nat.reduceAdd, Nat.reduceSub, Array.replicate_succ, Array.replicate_zero, List.push_toArray, List.append_toArray, List.nil_append, List.cons_append]
  go_upto_region 1 with (fail)
  rw [HW3.out]
  clear HW3
  go_wp2_with fail
  refine hk.mono ?_
  clear hk
  rintro e w4 ⟨rfl, hf4⟩
  replace HF3 := Lib.hid (HF3.out.trans' hf4)
  replace HB0 := Lib.hid (hf4.heap HB0.out (fun f => f))
  replace HB1 := Lib.hid (hf4.heap HB1.out (fun f => f))
  replace HB2 := Lib.hid (hf4.heap HB2.out (fun f => f))
  replace HB3 := Lib.hid (hf4.heap HB3.out (fun f => f))
  have hs4 : w.heap.size + 4 ≤ w4.heap.size := Nat.le_trans hs3 hf4.size
  clear hf4 hs3
  have q0 := cell_of_block (j := 0) HB0.out rfl
  have q1 := cell_of_block (j := 0) HB1.out rfl
  have q3 := cell_of_block (j := 0) HB3.out rfl
  have z3 := frozen_of_block (j := 0) HB3.out
  by_cases h30 : n ≤ 30
  · have h30' : ¬ (30 : Int) < (n : Int) := by omega
    have hal := r_of ao n cap site w4
    go_wp2_with fail
    refine hal.mono ?_
    clear hal
    rintro e w5 ⟨rfl, hw5⟩
    obtain ⟨w7, hw7⟩ : ∃ w7, (w5.alloc (.cells #[.int .i64 0] 3)).alloc (.cells #[.int .i64 0] 3) = w7 := ⟨_, rfl⟩
    obtain ⟨gx, hgx⟩ : ∃ gx, w4.heap.size = gx := ⟨_, rfl⟩
    have hs5 : w5.heap.size = gx + 2 := by rw [← hw5, ← hgx]; simp
    have hf7 : Fr no w4 w7 := by rw [← hw7, ← hw5]; exact ((((Fr.refl no w4).alloc _).alloc _).alloc _).alloc _
    have hI : RoI w (.slice ao n cap) site most gx 0 0 w7 := by
      refine ⟨hf7.heap HB0.out (fun f => f), hf7.heap HB1.out (fun f => f), hf7.heap HB2.out (fun f => f), hf7.heap HB3.out (fun f => f), ?_, ?_, ?_, ?_, HF3.out.trans' hf7⟩
      · rw [← hw7]; simp only [alloc_get, World.size_alloc, hs5]; rw [if_neg (by omega), if_neg (by omega), ← hw5, ← hgx]; simp only [alloc_get, World.size_alloc]; simp
      · rw [← hw7]; simp only [alloc_get, World.size_alloc, hs5]; rw [if_neg (by omega), if_neg (by omega), ← hw5, ← hgx]; simp only [alloc_get, World.size_alloc]; simp
      · rw [← hw7]; simp only [alloc_get, World.size_alloc, hs5, Nat.add_assoc]; simp
      · rw [← hw7]; simp only [alloc_get, World.size_alloc, hs5, Nat.add_assoc]; simp
    have hS0 : RoS w (.slice ao n cap) site most ls gx (rof site ls 0) w7 := ⟨0, 0, Nat.zero_le _, hm0, by simp, hI⟩
    have hs7 : w.heap.size ≤ w7.heap.size := hI.fr.size
    have HS0 := Lib.hid hS0
    have HW7 := Lib.hid hw7
    have hg3 : w.heap.size + 4 ≤ gx := by omega
    clear hI hS0 hf7 hw7 hw5 q0 q1 q3 z3 HB0 HB1 HB2 HB3 HF3
    have hnn := of_not_nil ⟨gx, 0, none⟩ ⟨gx + 1, 0, none⟩
    rw [hgx]
    go_upto_region 10 with (fail)
    rw [HW7.out]
    clear hnn HW7 hs5 hgx hs4
    go_wp2
    refine (wpIn_wide (n := 3)).1 ?_
    refine wpIn_eachF (ls := rof site ls 0) rfl (by intro h; cases h) (gf := 43) (lb := #[.pointer (some ⟨gx, 0, none⟩), .pointer (some ⟨gx + 1, 0, none⟩)]) rfl trivial (enters_of Tryz.func43 (by kernel_rfl) rfl)
      (of_iter gx (gx + 1) (.slice ao n cap) ls site (by rw [Hn.out]; omega)) (fun _ => rfl) (RoS w (.slice ao n cap) site most ls gx) (RoX w)
      ?hI ?hIx ?hIf ?hPre HS0.out ?round ?done ?stop
    case hI => exact fun s W W' ⟨p, m, h1, h2, h3, h4⟩ hb => ⟨p, m, h1, h2, h3, h4.bk hb (by omega)⟩
    case hIx => exact fun s W W' h hb => ⟨h.1, hb.heap h.2.1 rfl, hb.fr h.2.2 (by omega)⟩
    case hIf => exact fun s W W' ⟨p, m, h1, h2, h3, h4⟩ hb => ⟨p, m, h1, h2, h3, h4.kp hb⟩
    case hPre => exact fun s W ⟨p, m, h1, h2, h3, h4⟩ => ⟨cell_of_block h4.bx rfl, cell_of_block h4.bs rfl, by have := H.out.fr h4.fr (fun _ _ _ f => f); unfold RcsAt; rw [Hn.out]; exact this, fun r hr => (HOK.out r hr).fr h4.fr⟩
    case round =>
      rintro l W x s ⟨p, m, h1, h2, h3, h4⟩
      obtain ⟨xi, xr⟩ := x
      obtain ⟨x1, x2, x3, x4, x5, x6⟩ := rof_first site ls _ p _ s rfl h3
      dsimp only at x1 x2 x3 x4 x5 x6
      have hxo := HOK.out xr (List.mem_of_getElem? x3)
      obtain ⟨xs, xq, xd, xdep, xk, xv⟩ := xr
      obtain ⟨dO, dc, hxd, _, _⟩ := Rd.cap hxo
      dsimp only at hxd x4
      subst hxd
      subst x4
      obtain ⟨dn, hdn⟩ : ∃ dn, xdep.length = dn := ⟨_, rfl⟩
      obtain ⟨R, hR⟩ : ∃ R : Rc, (⟨xs, xq, .slice dO xdep.length dc, xdep, xk, xv⟩ : Rc) = R := ⟨_, rfl⟩
      have eR : R.v = .agg #[.int .i64 xs, .int .i64 xq, .slice dO dn dc, .string xk, .string xv] := by rw [← hR, ← hdn]; rfl
      have eRc : R.s = xs ∧ R.q = xq ∧ R.dv = .slice dO dn dc ∧ R.key = xk ∧ R.val = xv := by rw [← hR, ← hdn]; exact ⟨rfl, rfl, rfl, rfl, rfl⟩
      unfold encQ
      dsimp only
      rw [hR] at hxo x3 ⊢
      rw [eR]
      have fa : Fr no W (W.alloc (.cells #[.int .i64 xs, .int .i64 xq, .slice dO dn dc, .string xk, .string xv] 25)) := (Fr.refl no W).alloc _
      have hbx := World.alloc_heap_new W (.cells #[.int .i64 xs, .int .i64 xq, .slice dO dn dc, .string xk, .string xv] 25)
      clear hR hdn
      gi_wp2
      refine ⟨Kb.alloc _ _, fun l W' hb hl0 hl => ?_⟩
      have h4' := (h4.kp fa).bk hb (by omega)
      have hbr := hb.heap hbx rfl
      obtain ⟨gr, hgr⟩ : ∃ g, W.heap.size = g := ⟨_, rfl⟩
      rw [hgr] at hbr ⊢
      have hgrx : gx + 3 < gr := by have := (Array.getElem?_eq_some_iff.1 h4.n).1; omega
      rw [Hn.out] at x2
      have X3 := Lib.hid x3
      have X5 := Lib.hid x5
      have X6 := Lib.hid x6
      have H4 := Lib.hid h4'
      have ER := Lib.hid eR
      have ERC := Lib.hid eRc
      have HXO := Lib.hid hxo
      have BR := Lib.hid hbr
      clear hb h4 h4' h3 x3 x5 x6 h1 eR eRc hxo hbx hbr hgr fa
      gi_wp2
      gi_loopw [] (fun wr => ∃ q : Nat, p ≤ q ∧ q ≤ xi ∧ Hid (RoI w (.slice ao n cap) xs most gx q m wr) ∧ Hid (Kb W' wr) ∧ Hid (wr.heap[gr]? = some (.cells #[.int .i64 xs, .int .i64 xq, .slice dO dn dc, .string xk, .string xv] 25 (0, 0)))) (fun wr => n - cellNat wr (gx + 2))
      case atStart => exact ⟨p, Nat.le_refl _, x1, H4, Lib.hid (Kb.refl _), BR⟩
      case round =>
        obtain ⟨q, hq1, hq2, hI, hKb, hBR⟩ := hrel
        generalize wr = V at *
        have ca : V.cell? ⟨gx + 1 + 1, 0, none⟩ = some (.int .i64 (q : Int)) := cell_of_block hI.out.at_ rfl
        have fa : V.frozen? ⟨gx + 1 + 1, 0, none⟩ = false := frozen_of_block hI.out.at_
        have cv : V.cell? ⟨w.heap.size, 0, none⟩ = some (.slice ao n cap) := cell_of_block hI.out.vb rfl
        have cs : V.cell? ⟨w.heap.size + 1, 0, none⟩ = some (.int .i64 xs) := cell_of_block hI.out.sb rfl
        have hqn : q < n := by omega
        have hd : decide ((q : Int) < (n : Int)) = true := decide_eq_true (by omega)
        by_cases hlt : q < xi
        · obtain ⟨y, hy, hys⟩ := X5.out q hq1 hlt
          obtain ⟨g, off, c', he, c0, _⟩ := rcs_cells (by have := H.out.fr hI.out.fr (fun _ _ _ f => f); unfold RcsAt; rw [Hn.out]; exact this) hy
          rw [Hn.out] at he
          cases he
          have hyn : (y.s != xs) = true := by simpa using hys
          gi_wp2
          refine wpIn_region_q (free_round free_wide _) (by kernel_rfl) (by kernel_rfl) (by kernel_rfl) ?_
          repeat (go_big_quiet_step (fail))
          refine wpQuiet_nil ?_
          intro _ hw'
          obtain ⟨nq, hw''⟩ := hw'
          subst hw''
          have hfd : Fr no V (V.drewN nq) := (Fr.refl no V).drewN nq
          have hI1 := hI.out.kp hfd
          have fa1 : (V.drewN nq).frozen? ⟨gx + 1 + 1, 0, none⟩ = false := frozen_of_block hI1.at_
          have ca1 : (V.drewN nq).cell? ⟨gx + 1 + 1, 0, none⟩ = some (.int .i64 (q : Int)) := cell_of_block hI1.at_ rfl
          have hI2 := hI1.setAt hg3 (q + 1)
          have HK2 := Lib.hid ((hKb.out.trans (kb_fr hfd)).trans (Kb.setCell (V.drewN nq) ⟨gx + 1 + 1, 0, none⟩ (.int .i64 ((q : Int) + 1))))
          have HM : Hid (cellNat V (gx + 2) = q) := Lib.hid (cellNat_of hI.out.at_)
          have HM2 : Hid (cellNat ((V.drewN nq).setCell ⟨gx + 1 + 1, 0, none⟩ (.int .i64 ((q : Int) + 1))) (gx + 2) = q + 1) := Lib.hid (cellNat_of (by have := hI2.at_; push_cast at this ⊢; exact this))
          have HI2 : Hid (RoI w (.slice (some ⟨g, off, none⟩) n cap) xs most gx (q + 1) m ((V.drewN nq).setCell ⟨gx + 1 + 1, 0, none⟩ (.int .i64 ((q : Int) + 1)))) := Lib.hid (by push_cast at hI2; exact hI2)
          have HB2 : Hid (((V.drewN nq).setCell ⟨gx + 1 + 1, 0, none⟩ (.int .i64 ((q : Int) + 1))).heap[gr]? = _) := Lib.hid ((Below.heap_setCell _ _ _ _ (show gr ≠ gx + 1 + 1 by omega)).trans (hfd.heap hBR.out (fun f => f)))
          clear hI hI1 hI2 hKb hBR hfd
          gi_wp2
          exact ⟨⟨q + 1, by omega, by omega, HI2, HK2, HB2⟩, by rw [HM.out, HM2.out]; omega⟩
        · obtain rfl : xi = q := by omega
          obtain ⟨g, off, c', he, c0, _⟩ := rcs_cells (by have := H.out.fr hI.out.fr (fun _ _ _ f => f); unfold RcsAt; rw [Hn.out]; exact this) X3.out
          rw [Hn.out] at he
          cases he
          rw [ERC.out.1] at c0
          have hyn : (xs != xs) = false := by simp
          gi_wp2
          refine wpIn_region_q (free_round free_wide _) (by kernel_rfl) (by kernel_rfl) (by kernel_rfl) ?_
          repeat (go_big_quiet_step (fail))
          refine wpQuiet_nil ?_
          intro _ hw'
          obtain ⟨nq, hw''⟩ := hw'
          subst hw''
          obtain ⟨V1, hV1⟩ : ∃ V1, V.drewN nq = V1 := ⟨_, rfl⟩
          have hfd : Fr no V V1 := by rw [← hV1]; exact (Fr.refl no V).drewN nq
          rw [hV1]
          have HI1 := Lib.hid (hI.out.kp hfd)
          have HK1 := Lib.hid (hKb.out.trans (kb_fr hfd))
          have HB1 := Lib.hid (hfd.heap hBR.out (fun f => f))
          clear hI hKb hBR hV1 hfd c0 ca fa cv cs
          obtain ⟨g', off', c', he, e0, e1, e2, e3, e4⟩ := rcs_cells (by have := H.out.fr HI1.out.fr (fun _ _ _ f => f); unfold RcsAt; rw [Hn.out]; exact this) X3.out
          rw [Hn.out] at he
          cases he
          rw [ERC.out.1] at e0
          rw [ERC.out.2.1] at e1
          rw [ERC.out.2.2.1] at e2
          rw [ERC.out.2.2.2.1] at e3
          rw [ERC.out.2.2.2.2] at e4
          have ca : V1.cell? ⟨gx + 2, 0, none⟩ = some (.int .i64 (xi : Int)) := cell_of_block HI1.out.at_ rfl
          have cv : V1.cell? ⟨w.heap.size, 0, none⟩ = some (.slice (some ⟨g, off, none⟩) n cap) := cell_of_block HI1.out.vb rfl
          have r0 : V1.cell? ⟨gr, 0, none⟩ = some (.int .i64 xs) := cell_of_block HB1.out rfl
          have r1 : V1.cell? ⟨gr, 1, none⟩ = some (.int .i64 xq) := cell_of_block HB1.out rfl
          have r2 : V1.cell? ⟨gr, 2, none⟩ = some (.slice dO dn dc) := cell_of_block HB1.out rfl
          have r3 : V1.cell? ⟨gr, 3, none⟩ = some (.string xk) := cell_of_block HB1.out rfl
          have r4 : V1.cell? ⟨gr, 4, none⟩ = some (.string xv) := cell_of_block HB1.out rfl
          have hd2 : decide ((n : Int) ≤ (xi : Int)) = false := decide_eq_false (by omega)
          have hix : ((xi : Int) != (xi : Int)) = false := by simp
          have hof := fun W (hW : Fr no V1 W) => law_of R W ((HXO.out.fr HI1.out.fr).fr hW)
          have hsm := fun W (hW : Fr no V1 W) => ref_samerec R R W ((HXO.out.fr HI1.out.fr).fr hW) ((HXO.out.fr HI1.out.fr).fr hW)
          rw [ER.out] at hof
          rw [same_self, ER.out] at hsm
          have Hof := Lib.hid hof
          have Hsm := Lib.hid hsm
          have HC := Lib.hid (And.intro ca (And.intro cv (And.intro e0 (And.intro e1 (And.intro e2 (And.intro e3 (And.intro e4 (And.intro r0 (And.intro r1 (And.intro r2 (And.intro r3 r4)))))))))))
          clear hof hsm
          gi_wp2
          refine wpIn_held (free_round free_wide _) (fun w' => w'.cell? ⟨gx + 2, 0, none⟩ = some (.int .i64 (xi : Int)) ∧ w'.cell? ⟨w.heap.size, 0, none⟩ = some (.slice (some ⟨g, off, none⟩) n cap) ∧ w'.cell? ⟨g, off + xi * 5, none⟩ = some (.int .i64 xs) ∧ w'.cell? ⟨g, off + xi * 5 + 1, none⟩ = some (.int .i64 xq) ∧ w'.cell? ⟨g, off + xi * 5 + 2, none⟩ = some (.slice dO dn dc) ∧ w'.cell? ⟨g, off + xi * 5 + 3, none⟩ = some (.string xk) ∧ w'.cell? ⟨g, off + xi * 5 + 4, none⟩ = some (.string xv) ∧ w'.cell? ⟨gr, 0, none⟩ = some (.int .i64 xs) ∧ w'.cell? ⟨gr, 1, none⟩ = some (.int .i64 xq) ∧ w'.cell? ⟨gr, 2, none⟩ = some (.slice dO dn dc) ∧ w'.cell? ⟨gr, 3, none⟩ = some (.string xk) ∧ w'.cell? ⟨gr, 4, none⟩ = some (.string xv)) (by kernel_rfl) (by kernel_rfl) ?_ (fun hHeld => ?_)
          · exact HC.out
          refine held_take (v := ?_) 0 rfl (by kernel_rfl) (.inl ⟨by rfl, ?_⟩) hHeld ?_
          rotate_left
          · intro w hSw; (try dsimp only at hSw); first | (go_simp; done) | (go_simp; with_reducible rfl)
          try simp only [Act.put, List.setIfInBounds_toArray, List.set_cons_zero, List.set_cons_succ]
          refine held_take (v := ?_) 1 rfl (by kernel_rfl) (.inl ⟨by rfl, ?_⟩) hHeld ?_
          rotate_left
          · intro w hSw; (try dsimp only at hSw); first | (go_simp; done) | (go_simp; with_reducible rfl)
          try simp only [Act.put, List.setIfInBounds_toArray, List.set_cons_zero, List.set_cons_succ]
          refine held_take (v := ?_) 2 rfl (by kernel_rfl) (.inl ⟨by rfl, ?_⟩) hHeld ?_
          rotate_left
          · intro w hSw; (try dsimp only at hSw); first | (go_simp; done) | (go_simp; with_reducible rfl)
          try simp only [Act.put, List.setIfInBounds_toArray, List.set_cons_zero, List.set_cons_succ]
          refine held_take (v := ?_) 3 rfl (by kernel_rfl) (.inl ⟨by rfl, ?_⟩) hHeld ?_
          rotate_left
          · intro w hSw; (try dsimp only at hSw); first | (go_simp; done) | (go_simp; with_reducible rfl)
          try simp only [Act.put, List.setIfInBounds_toArray, List.set_cons_zero, List.set_cons_succ]
          refine held_take (v := (.bool false)) 4 rfl (by kernel_rfl) (.inl ⟨by rfl, ?_⟩) hHeld ?_
          · intro w hSw; (try dsimp only at hSw); go_simp
          try simp only [Act.put, List.setIfInBounds_toArray, List.set_cons_zero, List.set_cons_succ]
          refine held_take (v := ?_) 5 rfl (by kernel_rfl) (.inl ⟨by rfl, ?_⟩) hHeld ?_
          rotate_left
          · intro w hSw; (try dsimp only at hSw); first | (go_simp; done) | (go_simp; with_reducible rfl)
          try simp only [Act.put, List.setIfInBounds_toArray, List.set_cons_zero, List.set_cons_succ]
          refine held_take (v := ?_) 6 rfl (by kernel_rfl) (.inl ⟨by rfl, ?_⟩) hHeld ?_
          rotate_left
          · intro w hSw; (try dsimp only at hSw); first | (go_simp; done) | (go_simp; with_reducible rfl)
          try simp only [Act.put, List.setIfInBounds_toArray, List.set_cons_zero, List.set_cons_succ]
          refine held_take (v := ?_) 7 rfl (by kernel_rfl) (.inl ⟨by rfl, ?_⟩) hHeld ?_
          rotate_left
          · intro w hSw; (try dsimp only at hSw); first | (go_simp; done) | (go_simp; with_reducible rfl)
          try simp only [Act.put, List.setIfInBounds_toArray, List.set_cons_zero, List.set_cons_succ]
          refine held_take (v := ?_) 8 rfl (by kernel_rfl) (.inl ⟨by rfl, ?_⟩) hHeld ?_
          rotate_left
          · intro w hSw; (try dsimp only at hSw); first | (go_simp; done) | (go_simp; with_reducible rfl)
          try simp only [Act.put, List.setIfInBounds_toArray, List.set_cons_zero, List.set_cons_succ]
          refine held_take (v := ?_) 9 rfl (by kernel_rfl) (.inl ⟨by rfl, ?_⟩) hHeld ?_
          rotate_left
          · intro w hSw; (try dsimp only at hSw); first | (go_simp; done) | (go_simp; with_reducible rfl)
          try simp only [Act.put, List.setIfInBounds_toArray, List.set_cons_zero, List.set_cons_succ]
          refine held_take (v := ?_) 10 rfl (by kernel_rfl) (.inl ⟨by rfl, ?_⟩) hHeld ?_
          rotate_left
          · intro w hSw; (try dsimp only at hSw); first | (go_simp; done) | (go_simp; with_reducible rfl)
          try simp only [Act.put, List.setIfInBounds_toArray, List.set_cons_zero, List.set_cons_succ]
          refine held_take (v := ?_) 12 rfl (by kernel_rfl) (.inl ⟨by rfl, ?_⟩) hHeld ?_
          rotate_left
          · intro w hSw; (try dsimp only at hSw); first | (go_simp; done) | (go_simp; with_reducible rfl)
          try simp only [Act.put, List.setIfInBounds_toArray, List.set_cons_zero, List.set_cons_succ]
          refine held_take (v := ?_) 13 rfl (by kernel_rfl) (.inl ⟨by rfl, ?_⟩) hHeld ?_
          rotate_left
          · intro w hSw; (try dsimp only at hSw); first | (go_simp; done) | (go_simp; with_reducible rfl)
          try simp only [Act.put, List.setIfInBounds_toArray, List.set_cons_zero, List.set_cons_succ]
          refine held_take (v := ?_) 14 rfl (by kernel_rfl) (.inl ⟨by rfl, ?_⟩) hHeld ?_
          rotate_left
          · intro w hSw; (try dsimp only at hSw); first | (go_simp; done) | (go_simp; with_reducible rfl)
          try simp only [Act.put, List.setIfInBounds_toArray, List.set_cons_zero, List.set_cons_succ]
          refine held_take (v := ?_) 15 rfl (by kernel_rfl) (.inl ⟨by rfl, ?_⟩) hHeld ?_
          rotate_left
          · intro w hSw; (try dsimp only at hSw); first | (go_simp; done) | (go_simp; with_reducible rfl)
          try simp only [Act.put, List.setIfInBounds_toArray, List.set_cons_zero, List.set_cons_succ]
          refine held_call 11 rfl (by kernel_rfl) (fun K hK => ?_)
          go_simp
          go_at_call 12; refine (Hof.out _ (Fr.drew (Fr.refl no V1))).mono ?_; rintro e wa ⟨rfl, hfd⟩; have HF := Lib.hid ((Fr.drew (Fr.refl no V1)).trans' hfd); clear hfd
          refine hK.out _ _ ?_ (fun hHeld' => ?_)
          · obtain ⟨k1, k2, k3, k4, k5, k6, k7, k8, k9, k10, k11, k12⟩ := HC.out; exact ⟨HF.out.cell k1 (fun f => f), HF.out.cell k2 (fun f => f), HF.out.cell k3 (fun f => f), HF.out.cell k4 (fun f => f), HF.out.cell k5 (fun f => f), HF.out.cell k6 (fun f => f), HF.out.cell k7 (fun f => f), HF.out.cell k8 (fun f => f), HF.out.cell k9 (fun f => f), HF.out.cell k10 (fun f => f), HF.out.cell k11 (fun f => f), HF.out.cell k12 (fun f => f)⟩
          clear hK K hHeld
          have hHeld := hHeld'
          clear hHeld'
          try simp only [Act.put, List.setIfInBounds_toArray, List.set_cons_zero, List.set_cons_succ]
          refine held_call 16 rfl (by kernel_rfl) (fun K hK => ?_)
          go_simp
          go_at_call 12; refine (Hof.out _ HF.out).mono ?_; rintro e wa ⟨rfl, hfd⟩; replace HF := Lib.hid (HF.out.trans' hfd); clear hfd
          refine hK.out _ _ ?_ (fun hHeld' => ?_)
          · obtain ⟨k1, k2, k3, k4, k5, k6, k7, k8, k9, k10, k11, k12⟩ := HC.out; exact ⟨HF.out.cell k1 (fun f => f), HF.out.cell k2 (fun f => f), HF.out.cell k3 (fun f => f), HF.out.cell k4 (fun f => f), HF.out.cell k5 (fun f => f), HF.out.cell k6 (fun f => f), HF.out.cell k7 (fun f => f), HF.out.cell k8 (fun f => f), HF.out.cell k9 (fun f => f), HF.out.cell k10 (fun f => f), HF.out.cell k11 (fun f => f), HF.out.cell k12 (fun f => f)⟩
          clear hK K hHeld
          have hHeld := hHeld'
          clear hHeld'
          try simp only [Act.put, List.setIfInBounds_toArray, List.set_cons_zero, List.set_cons_succ]
          refine held_call 17 rfl (by kernel_rfl) (fun K hK => ?_)
          go_simp
          go_at_call 18; refine (Hsm.out _ HF.out).mono ?_; rintro e wa ⟨rfl, hfd⟩; replace HF := Lib.hid (HF.out.trans' hfd); clear hfd
          refine hK.out _ _ ?_ (fun hHeld' => ?_)
          · obtain ⟨k1, k2, k3, k4, k5, k6, k7, k8, k9, k10, k11, k12⟩ := HC.out; exact ⟨HF.out.cell k1 (fun f => f), HF.out.cell k2 (fun f => f), HF.out.cell k3 (fun f => f), HF.out.cell k4 (fun f => f), HF.out.cell k5 (fun f => f), HF.out.cell k6 (fun f => f), HF.out.cell k7 (fun f => f), HF.out.cell k8 (fun f => f), HF.out.cell k9 (fun f => f), HF.out.cell k10 (fun f => f), HF.out.cell k11 (fun f => f), HF.out.cell k12 (fun f => f)⟩
          clear hK K hHeld
          have hHeld := hHeld'
          clear hHeld'
          try simp only [Act.put, List.setIfInBounds_toArray, List.set_cons_zero, List.set_cons_succ]
          refine held_take (v := ?_) 18 rfl (by kernel_rfl) (.inl ⟨by rfl, ?_⟩) hHeld ?_
          rotate_left
          · intro w hSw; (try dsimp only at hSw); first | (go_simp; done) | (go_simp; with_reducible rfl)
          try simp only [Act.put, List.setIfInBounds_toArray, List.set_cons_zero, List.set_cons_succ]
          refine held_take (v := ?_) 19 rfl (by kernel_rfl) (.inl ⟨by rfl, ?_⟩) hHeld ?_
          rotate_left
          · intro w hSw; (try dsimp only at hSw); first | (go_simp; done) | (go_simp; with_reducible rfl)
          try simp only [Act.put, List.setIfInBounds_toArray, List.set_cons_zero, List.set_cons_succ]
          refine held_done (by kernel_rfl) ?_
          try clear hHeld
          replace HI1 := Lib.hid (HI1.out.kp HF.out)
          replace HK1 := Lib.hid (HK1.out.trans (kb_fr HF.out))
          generalize wa = V2 at *
          clear HC Hof Hsm HF HB1 e0 e1 e2 e3 e4 r0 r1 r2 r3 r4 ca cv hd hd2 hix
          have ca : V2.cell? ⟨gx + 2, 0, none⟩ = some (.int .i64 (xi : Int)) := cell_of_block HI1.out.at_ rfl
          have fa : V2.frozen? ⟨gx + 2, 0, none⟩ = false := frozen_of_block HI1.out.at_
          obtain ⟨V3, hV3⟩ : ∃ V3, V2.setCell ⟨gx + 2, 0, none⟩ (.int .i64 ((xi : Int) + 1)) = V3 := ⟨_, rfl⟩
          have hI3 : RoI w (.slice (some ⟨g, off, none⟩) n cap) xs most gx (xi + 1) m V3 := by have := HI1.out.setAt hg3 (xi + 1); push_cast at this; rw [← hV3]; exact this
          have hK3 : Kb W' V3 := by rw [← hV3]; exact HK1.out.trans (Kb.setCell _ _ _)
          have cn : V3.cell? ⟨gx + 2 + 1, 0, none⟩ = some (.int .i64 (m : Int)) := cell_of_block hI3.n rfl
          have fn : V3.frozen? ⟨gx + 2 + 1, 0, none⟩ = false := frozen_of_block hI3.n
          obtain ⟨V4, hV4⟩ : ∃ V4, V3.setCell ⟨gx + 2 + 1, 0, none⟩ (.int .i64 ((m : Int) + 1)) = V4 := ⟨_, rfl⟩
          have hI4 : RoI w (.slice (some ⟨g, off, none⟩) n cap) xs most gx (xi + 1) (m + 1) V4 := by have := hI3.setN hg3 (m + 1); push_cast at this; rw [← hV4]; exact this
          have hK4 : Kb W' V4 := by rw [← hV4]; exact hK3.trans (Kb.setCell _ _ _)
          have cn4 : V4.cell? ⟨gx + 2 + 1, 0, none⟩ = some (.int .i64 ((m : Int) + 1)) := by have := cell_of_block (j := 0) hI4.n rfl; push_cast at this; exact this
          have cm4 : V4.cell? ⟨w.heap.size + 1 + 1, 0, none⟩ = some (.int .u8 most) := cell_of_block hI4.mo rfl
          have cr4 : V4.cell? ⟨w.heap.size + 1 + 1 + 1, 0, none⟩ = some (.bool false) := cell_of_block hI4.r rfl
          have fr4 : V4.frozen? ⟨w.heap.size + 1 + 1 + 1, 0, none⟩ = false := frozen_of_block hI4.r
          have hm' : (m : Int) + 1 ≤ 256 := by omega
          have HI4 := Lib.hid hI4
          have HK4 := Lib.hid hK4
          clear hI3 hK3 hI4 hK4 HI1 HK1
          by_cases hmm : most < (m : Int) + 1
          · gi_wp2
            refine ⟨HK4.out.trans (Kb.setCell _ _ _), rfl, heap_setC (j := 0) _ HI4.out.r, HI4.out.fr.setCell (p := ⟨w.heap.size + 3, 0, none⟩) (fun h => by simp at h; omega) _⟩
          · gi_wp2
            exact ⟨HK4.out, xi + 1, m + 1, by rw [Hn.out]; omega, by push_cast; omega, X6.out, HI4.out⟩
    case done =>
      rintro D W hD ⟨p, m, h1, h2, h3, h4⟩ hd _
      have hnone := rof_none site ls _ p rfl h3
      rw [Hn.out] at hnone h1
      have HN := Lib.hid hnone
      have H4 := Lib.hid h4
      have Hd := Lib.hid hd
      clear hnone h4 hd h3 h2
      go_wp2
      go_loopw [] (fun wr => ∃ q : Nat, p ≤ q ∧ q ≤ n ∧ Hid (RoI w (.slice ao n cap) site most gx q m wr) ∧ Hid (wr.heap[D]? = some (.deferred (some [])))) (fun wr => n - cellNat wr (gx + 2))
      case atStart => exact ⟨p, Nat.le_refl _, h1, H4, Hd⟩
      case round =>
        obtain ⟨q, hq1, hq2, hI, hKb⟩ := hrel
        generalize wr = V at *
        have ca : V.cell? ⟨gx + 2, 0, none⟩ = some (.int .i64 (q : Int)) := cell_of_block hI.out.at_ rfl
        have fa : V.frozen? ⟨gx + 2, 0, none⟩ = false := frozen_of_block hI.out.at_
        have cv : V.cell? ⟨w.heap.size, 0, none⟩ = some (.slice ao n cap) := cell_of_block hI.out.vb rfl
        have cs : V.cell? ⟨w.heap.size + 1, 0, none⟩ = some (.int .i64 site) := cell_of_block hI.out.sb rfl
        have cr : V.cell? ⟨w.heap.size + 1 + 1 + 1, 0, none⟩ = some (.bool false) := cell_of_block hI.out.r rfl
        have fr' : V.frozen? ⟨w.heap.size + 1 + 1 + 1, 0, none⟩ = false := frozen_of_block hI.out.r
        have hDa : D ≠ gx + 2 := by rintro rfl; have := hI.out.at_; rw [hKb.out] at this; cases this
        have hDr : D ≠ w.heap.size + 1 + 1 + 1 := by rintro rfl; have := hI.out.r; rw [hKb.out] at this; cases this
        by_cases hlt : q < n
        · obtain ⟨y, hy, hys⟩ := HN.out q hq1 hlt
          obtain ⟨g, off, c', he, c0, _⟩ := rcs_cells (by have := H.out.fr hI.out.fr (fun _ _ _ f => f); unfold RcsAt; rw [Hn.out]; exact this) hy
          rw [Hn.out] at he
          cases he
          have hyn : (y.s == site) = false := by simpa using hys
          go_wp2_with fail
          go_quiet (fail)
          have hfd : Fr no V (V.drewN nq) := (Fr.refl no V).drewN nq
          have hI1 := hI.out.kp hfd
          have fa1 : (V.drewN nq).frozen? ⟨gx + 2, 0, none⟩ = false := frozen_of_block hI1.at_
          have ca1 : (V.drewN nq).cell? ⟨gx + 2, 0, none⟩ = some (.int .i64 (q : Int)) := cell_of_block hI1.at_ rfl
          have hI2 := hI1.setAt hg3 (q + 1)
          have HK2 : Hid (((V.drewN nq).setCell ⟨gx + 2, 0, none⟩ (.int .i64 ((q : Int) + 1))).heap[D]? = some (.deferred (some []))) := Lib.hid ((Below.heap_setCell _ _ _ _ hDa).trans (hfd.heap hKb.out (fun f => f)))
          have HM : Hid (cellNat V (gx + 2) = q) := Lib.hid (cellNat_of hI.out.at_)
          have HM2 : Hid (cellNat ((V.drewN nq).setCell ⟨gx + 2, 0, none⟩ (.int .i64 ((q : Int) + 1))) (gx + 2) = q + 1) := Lib.hid (cellNat_of (by have := hI2.at_; push_cast at this ⊢; exact this))
          have HI2 : Hid (RoI w (.slice (some ⟨g, off, none⟩) n cap) site most gx (q + 1) m ((V.drewN nq).setCell ⟨gx + 2, 0, none⟩ (.int .i64 ((q : Int) + 1)))) := Lib.hid (by push_cast at hI2; exact hI2)
          clear hI hI1 hI2 hKb hfd c0 hy
          go_wp2
          go_roundw
          case rel => exact ⟨q + 1, by omega, by omega, HI2, HK2⟩
          case measure => rw [HM.out, HM2.out]; omega
        · have hqn : q = n := by omega
          subst hqn
          clear H HN
          go_wp2
          refine leaveOne D rfl ((Below.heap_setCell _ _ _ _ hDr).trans hKb.out) (fun Wf hbf => ?_)
          exact ⟨_, rof_res _ (w.heap.size + 3) _ _ rfl (cell_of_block (hbf.heap (heap_setC (j := 0) _ hI.out.r) rfl) rfl), rfl, hbf.fr (hI.out.fr.setCell (p := ⟨w.heap.size + 3, 0, none⟩) (fun h => by simp at h; omega) _) (by omega)⟩
    case stop =>
      rintro D c W hD ⟨rfl, g2, g4⟩ hd
      refine wpIn_ret ?_
      refine leaveOne D rfl hd (fun Wf hbf => ?_)
      exact ⟨_, rof_res _ (w.heap.size + 3) _ _ rfl (cell_of_block (hbf.heap g2 rfl) rfl), rfl, hbf.fr g4 (by omega)⟩
  · have h30' : (30 : Int) < (n : Int) := by omega
    have hset := heap_setC (j := 0) (.bool true) HB3.out
    have Hset := Lib.hid hset
    clear hset
    go_wp2
    exact leave0 rfl (rof_res _ (w.heap.size + 3) _ (.bool true) rfl (cell_of_block Hset.out rfl)) ⟨rfl, HF3.out.setCell (p := ⟨w.heap.size + 3, 0, none⟩) (fun h => by simp at h; omega) _⟩
set_option maxRecDepth 100000 in
theorem recOf_row {H : Type} {enc : TypeId × Value → H} (v0 : Value) (a b : Int) {d0 : DataW H} {p0 : List MemPlace} {base : Nat} (w : World) (hG : GlU w)
    (ok0 : Value.okWide Tryz.prog w .any base 41 v0) (h0 : DataW.Trod enc Tryz.prog w 0 (fun _ => true) true 41 v0 d0 p0) (ha : (Lit.int .i64 a).wf = true) (hb : (Lit.int .u8 b).wf = true) :
    Calls Tryz.prog 5 #[v0, .int .i64 a, .int .u8 b] w fun e w' => e = .returned (.bool true) ∧ Below w.heap.size w w' := by
  obtain ⟨l, rl, hl⟩ := recs_open ok0 h0
  refine (recOf_any v0 l a b w hG rl (fun r hr => (hl r hr).1) (bounds_u8 hb).1 (bounds_u8 hb).2).mono ?_
  rintro e w' ⟨he, hf⟩
  exact ⟨he, hf.below⟩
end Go.Proofs.YtgcjnhocoklfbaaGreatDoor
