/- Package stripe: Positions, its iterator. -/
import Derived.Test.YtkdcldnbdhfobaaDoorMpS
import Derived.Test.YtkdcldnbdhfobaaDoorMpN
import Derived.Test.YtkdcldnbdhfobaaDoorHeld2
import Derived.RegionTactic
import Derived.BigRegion
namespace Go.Proofs.YtkdcldnbdhfobaaDoor
open Go.RowKit Go.Shelf Go.XL
set_option linter.unusedVariables false
set_option linter.unusedSimpArgs false
attribute [local go_sem] Oper.semAt_some
theorem m_positions (ao : Option Addr) (n cap : Nat) (st frm en : Int) (w : World) : Calls Tryd.prog 22 #[.slice ao n cap, .int .i64 st, .int .i64 frm, .int .i64 en] w fun e w' => e = .returned (.func (.func 34) #[] #[.pointer (some ⟨w.heap.size, 0, none⟩), .pointer (some ⟨w.heap.size + 3, 0, none⟩), .pointer (some ⟨w.heap.size + 1, 0, none⟩), .pointer (some ⟨w.heap.size + 2, 0, none⟩)]) ∧
    (((w.alloc (.cells #[.slice ao n cap] 23)).alloc (.cells #[.int .i64 st] 3)).alloc (.cells #[.int .i64 frm] 3)).alloc (.cells #[.int .i64 en] 3) = w' := by
  go_enter Tryd.func22, Tryd.ntmps22
  go_wp2
  go_ret
  exact ⟨by simp [Nat.add_assoc], rfl⟩
theorem pos_not_nil (x y z u : Addr) (w : World) : (binOp .eql 53 (.func (.func 34) #[] #[.pointer (some x), .pointer (some y), .pointer (some z), .pointer (some u)]) .nilFunc).run Tryd.prog w = .ok (.bool false) w := by kernel_rfl
structure PsPre (c1 c2 c3 c4 : Nat) (v : Value) (m : Mp) (st frm en : Int) (W : World) : Prop where
  p1 : W.cell? ⟨c1, 0, none⟩ = some v
  p2 : W.cell? ⟨c2, 0, none⟩ = some (.int .i64 en)
  p3 : W.cell? ⟨c3, 0, none⟩ = some (.int .i64 st)
  p4 : W.cell? ⟨c4, 0, none⟩ = some (.int .i64 frm)
  ok : MpAt W v m
theorem PsPre.fr {c1 c2 c3 c4 : Nat} {v : Value} {m : Mp} {st frm en : Int} {W W' : World} (h : PsPre c1 c2 c3 c4 v m st frm en W) (hf : Fr no W W') : PsPre c1 c2 c3 c4 v m st frm en W' :=
  ⟨hf.cell h.p1 (fun f => f), hf.cell h.p2 (fun f => f), hf.cell h.p3 (fun f => f), hf.cell h.p4 (fun f => f), h.ok.fr hf (fun _ _ _ f => f)⟩
theorem way3 {E f R a G : Int} (hR : E - f = R) (h : E ≤ a + G + f) : E ≤ f ∨ (¬ E ≤ f ∧ R ≤ a) ∨ (¬ E ≤ f ∧ ¬ R ≤ a ∧ R - a ≤ G) := by omega
theorem way4 {E f R a G : Int} (hR : E - f = R) (h : ¬ E ≤ a + G + f) (ha : 0 ≤ a) (hG : 0 ≤ G) : ¬ E ≤ f ∧ ¬ R ≤ a ∧ ¬ R - a ≤ G ∧ a + G < R ∧ 0 ≤ a + G ∧ R + f = E := by omega
def afterRegion (n : Nat) : Code → Option Code
  | .seq (.region m ops d) b => if m == n then some b else afterRegion n b
  | .seq a b => match afterRegion n a with
    | some c => some c
    | none => afterRegion n b
  | .loop c => afterRegion n c
  | .block _ c => afterRegion n c
  | .scope c => afterRegion n c
  | .cond _ a b => match afterRegion n a with
    | some c => some c
    | none => afterRegion n b
  | _ => none
noncomputable def posTail : Code := ((Tryd.f34.body.bind (afterRegion 9)).getD .skip)
def PosNext (Q : Exit → Act → World → Prop) (e : Exit) (l c1 c2 c3 c4 : Nat) (q5 q13 q14 q15 q16 q17 : Value) (k : Nat) (Good : World → Prop) : Prop :=
  ∀ (u6 u7 u8 u9 u10 u11 u12 u19 u20 u21 u22 u23 u24 u25 u26 u27 u28 u29 u30 u31 u32 u33 u34 u35 u36 u37 u38 u39 u40 u41 u42 u43 u44 u45 u46 u47 u48 u49 u50 u51 u52 u53 u54 u55 u56 u57 u58 u59 u60 u61 u62 u63 u64 u65 u66 u67 u68 u69 u70 u71 u72 u73 u74 u75 u76 u77 u78 u79 u80 u81 u82 u83 u84 u85 u86 u87 u88 u89 u90 u91 u92 u93 u94 u95 u96 u97 u98 u99 u100 u101 u102 u103 u104 : Value) (w' : World), Good w' → Q e ⟨List.toArray (.func (.yield l) #[] #[] :: .pointer (some ⟨c1, 0, none⟩) :: .pointer (some ⟨c2, 0, none⟩) :: .pointer (some ⟨c3, 0, none⟩) :: .pointer (some ⟨c4, 0, none⟩) :: q5 :: u6 :: u7 :: u8 :: u9 :: u10 :: u11 :: u12 :: q13 :: q14 :: q15 :: q16 :: q17 :: .int .i64 k :: u19 :: u20 :: u21 :: u22 :: u23 :: u24 :: u25 :: u26 :: u27 :: u28 :: u29 :: u30 :: u31 :: u32 :: u33 :: u34 :: u35 :: u36 :: u37 :: u38 :: u39 :: u40 :: u41 :: u42 :: u43 :: u44 :: u45 :: u46 :: u47 :: u48 :: u49 :: u50 :: u51 :: u52 :: u53 :: u54 :: u55 :: u56 :: u57 :: u58 :: u59 :: u60 :: u61 :: u62 :: u63 :: u64 :: u65 :: u66 :: u67 :: u68 :: u69 :: u70 :: u71 :: u72 :: u73 :: u74 :: u75 :: u76 :: u77 :: u78 :: u79 :: u80 :: u81 :: u82 :: u83 :: u84 :: u85 :: u86 :: u87 :: u88 :: u89 :: u90 :: u91 :: u92 :: u93 :: u94 :: u95 :: u96 :: u97 :: u98 :: u99 :: u100 :: u101 :: u102 :: u103 :: u104 :: []), []⟩ w'
set_option maxRecDepth 100000 in
set_option maxHeartbeats 4000000 in
theorem pos_tail {l c1 c2 c3 c4 gb k : Nat} {E a R G st f c : Int} {J : BxSt Int → World → Prop} {Jx : World → Prop} {bx : Option (Nat × Obj)} {W0 : World} {rest : List Int} {Q : Exit → Act → World → Prop} {q5 q13 q14 q15 q16 q17 : Value}
    {ls : List Int} (hJ : J (ls, bx) W0) (hls : ls = (irange (a + G + f) E).filter (fun q => decide ((q - f) % c = st)) ++ rest) (hbox : ∀ s W, J s W → BoxAt s W)
    (HY : Hid (∀ (s : BxSt Int) (W : World) (x : Int) (s' : BxSt Int) (W1 : World), J s W → BxStep s W x s' W1 → YieldAt Fence.wide (2 - 1) Tryd.prog l (encN x) W1 fun e W2 => (e = .returned (.bool true) ∧ J s' W2) ∨ (e = .returned (.bool false) ∧ Jx W2)))
    (hst : (a + G) % c = st) (hR : E - f = R) (ha0 : 0 ≤ a) (ha1 : a ≤ 1000000) (hg0 : 0 ≤ G) (hg1 : G < c) (hc1 : 1 ≤ c) (hc8 : c ≤ 8) (hR0 : -1000000 ≤ R) (hR1 : R ≤ 1000000) (hf0 : 0 ≤ f) (hf1 : f ≤ 1000000) (hgs : W0.heap.size ≤ gb)
    {u6 u12 u19 u20 u21 u22 u23 u24 u25 u26 u27 u28 u29 u30 u31 u32 u33 u34 u35 u36 u37 u38 u39 u40 u41 u42 u43 u44 u45 u46 u47 u48 u49 u50 u51 u52 u53 u54 u55 u56 u57 u58 u59 u60 u61 u62 u63 u64 u65 u66 u67 u68 u69 u70 u71 u72 u73 u74 u75 u76 u77 u78 u79 u80 u81 u82 u83 u84 u85 u86 u87 u88 u89 u90 u91 u92 u93 u94 u95 u96 u97 u98 u99 u100 u101 u102 u103 u104 : Value} {w : World} (HF : Hid (Fr no W0 w)) (HB : Hid (w.heap[gb]? = some (.cells #[.int .i64 f, .int .i64 c] 48 (0, 0))))
    (hn : PosNext Q .normal l c1 c2 c3 c4 q5 q13 q14 q15 q16 q17 k (fun w' => ∃ bx' W1, J (rest, bx') W1 ∧ Fr no W1 w'))
    (he : PosNext Q (.exit 1) l c1 c2 c3 c4 q5 q13 q14 q15 q16 q17 k (fun w' => ∃ bx' W1, J (rest, bx') W1 ∧ Fr no W1 w'))
    (hr : ∀ (t : Array Value) (w' : World), Jx w' → Q .ret ⟨t, []⟩ w') :
    Code.wpIn Fence.wide 2 Tryd.prog posTail Q ⟨List.toArray (.func (.yield l) #[] #[] :: .pointer (some ⟨c1, 0, none⟩) :: .pointer (some ⟨c2, 0, none⟩) :: .pointer (some ⟨c3, 0, none⟩) :: .pointer (some ⟨c4, 0, none⟩) :: q5 :: u6 :: .pointer (some ⟨gb, 0, none⟩) :: .int .i64 E :: .int .i64 a :: .int .i64 R :: .int .i64 G :: u12 :: q13 :: q14 :: q15 :: q16 :: q17 :: .int .i64 k :: u19 :: u20 :: u21 :: u22 :: u23 :: u24 :: u25 :: u26 :: u27 :: u28 :: u29 :: u30 :: u31 :: u32 :: u33 :: u34 :: u35 :: u36 :: u37 :: u38 :: u39 :: u40 :: u41 :: u42 :: u43 :: u44 :: u45 :: u46 :: u47 :: u48 :: u49 :: u50 :: u51 :: u52 :: u53 :: u54 :: u55 :: u56 :: u57 :: u58 :: u59 :: u60 :: u61 :: u62 :: u63 :: u64 :: u65 :: u66 :: u67 :: u68 :: u69 :: u70 :: u71 :: u72 :: u73 :: u74 :: u75 :: u76 :: u77 :: u78 :: u79 :: u80 :: u81 :: u82 :: u83 :: u84 :: u85 :: u86 :: u87 :: u88 :: u89 :: u90 :: u91 :: u92 :: u93 :: u94 :: u95 :: u96 :: u97 :: u98 :: u99 :: u100 :: u101 :: u102 :: u103 :: u104 :: []), []⟩ w := by
  have Hn := Lib.hid hn
  have He := Lib.hid he
  have Hr := Lib.hid hr
  have Hbx := Lib.hid hbox
  clear hn he hr hbox
  conv => arg 4; whnf
  have b0 : w.cell? ⟨gb, 0, none⟩ = some (.int .i64 f) := cell_of_block HB.out rfl
  by_cases hemp : E ≤ a + G + f
  · have hway := way3 hR hemp
    rw [hls, irange_nil hemp] at hJ
    clear hls hR hemp
    rcases hway with q1 | ⟨q1, q2⟩ | ⟨q1, q2, q3⟩
    · have d1 : decide (E ≤ f) = true := decide_eq_true q1
      gi_wp2
      have H := He.out
      unfold PosNext at H
      apply H
      exact ⟨bx, W0, hJ, HF.out⟩
    · have d1 : decide (E ≤ f) = false := decide_eq_false q1
      have d2 : decide (R ≤ a) = true := decide_eq_true q2
      gi_wp2
      have H := He.out
      unfold PosNext at H
      apply H
      exact ⟨bx, W0, hJ, HF.out⟩
    · have d1 : decide (E ≤ f) = false := decide_eq_false q1
      have d2 : decide (R ≤ a) = false := decide_eq_false q2
      have d3 : decide (R - a ≤ G) = true := decide_eq_true q3
      gi_wp2
      have H := He.out
      unfold PosNext at H
      apply H
      exact ⟨bx, W0, hJ, HF.out⟩
  · skip
    obtain ⟨q1, q2, q3, hag, hag0, hRE⟩ := way4 hR hemp ha0 hg0
    have d1 : decide (E ≤ f) = false := decide_eq_false q1
    have d2 : decide (R ≤ a) = false := decide_eq_false q2
    have d3 : decide (R - a ≤ G) = false := decide_eq_false q3
    clear hR hemp
    have HJ := Lib.hid hJ
    have Hls := Lib.hid hls
    have Hst := Lib.hid hst
    obtain ⟨box, hbox⟩ : ∃ box, Obj.cells #[.int .i64 f, .int .i64 c] 48 (0, 0) = box := ⟨_, rfl⟩
    have Hbox := Lib.hid hbox
    rw [hbox] at HB
    clear hJ hls hbox hst
    gi_wp2_with fail
    gi_loopw [12] (fun pv wr => ∃ (p : Int) (bx : Option (Nat × Obj)) (W0 : World), pv = .int .i64 p ∧ 0 ≤ p ∧ p < R ∧ Hid (p % c = st) ∧ Hid (J ((irange (p + f) E).filter (fun q => decide ((q - f) % c = st)) ++ rest, bx) W0) ∧ Hid (Fr no W0 wr) ∧ Hid (wr.heap[gb]? = some box) ∧ Hid (bx = some (gb, box) ∨ W0.heap.size ≤ gb)) (fun pv _ => (R - intOf pv).toNat)
    case atStart => exact ⟨a + G, bx, W0, rfl, hag0, hag, Hst, Lib.hid (by rw [← Hls.out]; exact HJ.out), HF, HB, Lib.hid (.inr hgs)⟩
    case round =>
      obtain ⟨p, bx, W0, rfl, hp0, hpR, hpm, HJp, HFp, HBp, hbx⟩ := hrel
      have hbk : isBook box = false := by rw [← Hbox.out]; rfl
      have hstep := mseg_step (st := st) (f := f) (n := c) (p := p) (e := E) hc1 hpm.out (by omega)
      have hJp := HJp.out
      rw [hstep, List.cons_append] at hJp
      obtain ⟨fn, tmps, assign, body, hy, hR⟩ := HY.out _ W0 (p + f) ((irange (p + c + f) E).filter (fun q => decide ((q - f) % c = st)) ++ rest, some (gb, box)) wr hJp ⟨rfl, HFp.out, by
        rcases hbx.out with e | e
        · exact .inl e.symm
        · exact .inr ⟨gb, box, rfl, e, HBp.out, hbk⟩⟩
      have e0 : wr.cell? ⟨gb, 0, none⟩ = some (.int .i64 f) := cell_of_block (by rw [HBp.out, ← Hbox.out]) rfl
      have Hpm2 : Hid ((p + c) % c = st) := Lib.hid (by have := Int.add_mul_emod_self_left p c 1; rw [Int.mul_one] at this; rw [this]; exact hpm.out)
      clear hJp hstep hbx HBp HFp hbk HJp
      gi_wp2
      refine hR.mono ?_
      rintro e W3 (⟨rfl, hJ3⟩ | ⟨rfl, hJx3⟩)
      · have hb3 := (Hbx.out _ W3 hJ3 gb box rfl).1
        have e1 : W3.cell? ⟨gb, 1, none⟩ = some (.int .i64 c) := cell_of_block (by rw [hb3, ← Hbox.out]) rfl
        have HB4 := Lib.hid hb3
        have HJ3 := Lib.hid hJ3
        clear hb3 e0 hy hJ3
        by_cases hlast : R - c ≤ p
        · have HJ4 : Hid (J (rest, some (gb, box)) W3) := Lib.hid (by
            have hJ3 := HJ3.out
            rw [irange_nil (show E ≤ p + c + f by omega)] at hJ3
            exact hJ3)
          clear HJ3
          gi_wp2
          have H := Hn.out
          unfold PosNext at H
          apply H
          exact ⟨_, W3, HJ4.out, Fr.refl _ _⟩
        · gi_wp2
          go_roundw
          case rel => exact ⟨p + c, some (gb, box), W3, by go_num, by omega, by omega, Hpm2, HJ3, Lib.hid (Fr.refl _ _), HB4, Lib.hid (.inl rfl)⟩
          case measure => simp [intOf]; omega
      · gi_wp2
        exact Hr.out _ _ hJx3
def theRegion (n : Nat) : Code → Option Code
  | .region m ops d => if m == n then some (.region m ops d) else none
  | .seq a b => match theRegion n a with
    | some c => some c
    | none => theRegion n b
  | .loop c => theRegion n c
  | .block _ c => theRegion n c
  | .scope c => theRegion n c
  | .cond _ a b => match theRegion n a with
    | some c => some c
    | none => theRegion n b
  | _ => none
noncomputable def posR8 : Code := ((Tryd.f34.body.bind (theRegion 8)).getD .skip)
noncomputable def posAfter8 : Code := ((Tryd.f34.body.bind (afterRegion 8)).getD .skip)
set_option maxRecDepth 100000 in
set_option maxHeartbeats 4000000 in
theorem pos_mid {l c1 c2 c3 c4 gb k : Nat} {E st f c frm en : Int} {v : Value} {m : Mp} {J : BxSt Int → World → Prop} {Jx : World → Prop} {bx : Option (Nat × Obj)} {W0 : World} {rest : List Int} {Q Q1 : Exit → Act → World → Prop} {K : Act → World → Prop} (hK : ∀ (a : Act) (w : World), Code.wpIn Fence.wide 2 Tryd.prog posAfter8 Q a w → K a w) {q5 q13 q14 q15 q16 q17 : Value}
    (HJ : Hid (J (mseg st frm (f, c) E ++ rest, bx) W0)) (hbox : ∀ s W, J s W → BoxAt s W)
    (HY : Hid (∀ (s : BxSt Int) (W : World) (x : Int) (s' : BxSt Int) (W1 : World), J s W → BxStep s W x s' W1 → YieldAt Fence.wide (2 - 1) Tryd.prog l (encN x) W1 fun e W2 => (e = .returned (.bool true) ∧ J s' W2) ∨ (e = .returned (.bool false) ∧ Jx W2)))
    (hst0 : 0 ≤ st) (hst1 : st ≤ 1000) (hst : st < c) (hfm0 : 0 ≤ frm) (hfm1 : frm ≤ 1000000) (hE0 : 0 ≤ E) (hE1 : E ≤ 1000000) (hc1 : 1 ≤ c) (hc8 : c ≤ 8) (hf0 : 0 ≤ f) (hf1 : f ≤ 1000000) (hgs : W0.heap.size ≤ gb)
    {u6 u9 u10 u11 u12 u19 u20 u21 u22 u23 u24 u25 u26 u27 u28 u29 u30 u31 u32 u33 u34 u35 u36 u37 u38 u39 u40 u41 u42 u43 u44 u45 u46 u47 u48 u49 u50 u51 u52 u53 u54 u55 u56 u57 u58 u59 u60 u61 u62 u63 u64 u65 u66 u67 u68 u69 u70 u71 u72 u73 u74 u75 u76 u77 u78 u79 u80 u81 u82 u83 u84 u85 u86 u87 u88 u89 u90 u91 u92 u93 u94 u95 u96 u97 u98 u99 u100 u101 u102 u103 u104 : Value} {w : World} (hP : PsPre c1 c2 c3 c4 v m st frm en w) (HF : Hid (Fr no W0 w)) (HB : Hid (w.heap[gb]? = some (.cells #[.int .i64 f, .int .i64 c] 48 (0, 0))))
    (hn : PosNext Q .normal l c1 c2 c3 c4 q5 q13 q14 q15 q16 q17 k (fun w' => ∃ bx' W1, J (rest, bx') W1 ∧ Fr no W1 w'))
    (he : PosNext Q (.exit 1) l c1 c2 c3 c4 q5 q13 q14 q15 q16 q17 k (fun w' => ∃ bx' W1, J (rest, bx') W1 ∧ Fr no W1 w'))
    (hr : ∀ (t : Array Value) (w' : World), Jx w' → Q .ret ⟨t, []⟩ w') :
    Code.wpIn Fence.wide 2 Tryd.prog posR8 (Exit.then K Q1) ⟨List.toArray (.func (.yield l) #[] #[] :: .pointer (some ⟨c1, 0, none⟩) :: .pointer (some ⟨c2, 0, none⟩) :: .pointer (some ⟨c3, 0, none⟩) :: .pointer (some ⟨c4, 0, none⟩) :: q5 :: u6 :: .pointer (some ⟨gb, 0, none⟩) :: .int .i64 E :: u9 :: u10 :: u11 :: u12 :: q13 :: q14 :: q15 :: q16 :: q17 :: .int .i64 k :: u19 :: u20 :: u21 :: u22 :: u23 :: u24 :: u25 :: u26 :: u27 :: u28 :: u29 :: u30 :: u31 :: u32 :: u33 :: u34 :: u35 :: u36 :: u37 :: u38 :: u39 :: u40 :: u41 :: u42 :: u43 :: u44 :: u45 :: u46 :: u47 :: u48 :: u49 :: u50 :: u51 :: u52 :: u53 :: u54 :: u55 :: u56 :: u57 :: u58 :: u59 :: u60 :: u61 :: u62 :: u63 :: u64 :: u65 :: u66 :: u67 :: u68 :: u69 :: u70 :: u71 :: u72 :: u73 :: u74 :: u75 :: u76 :: u77 :: u78 :: u79 :: u80 :: u81 :: u82 :: u83 :: u84 :: u85 :: u86 :: u87 :: u88 :: u89 :: u90 :: u91 :: u92 :: u93 :: u94 :: u95 :: u96 :: u97 :: u98 :: u99 :: u100 :: u101 :: u102 :: u103 :: u104 :: []), []⟩ w := by
  have Hn := Lib.hid hn
  have He := Lib.hid he
  have Hr := Lib.hid hr
  have Hbx := Lib.hid hbox
  clear hn he hr hbox
  obtain ⟨hms, hmo⟩ := mseg_first (e := E) (frm := frm) (f := f) hc1 hst0 hst
  obtain ⟨a, ha⟩ : ∃ a, max frm f - f = a := ⟨_, rfl⟩
  have hge := gap_eq (a := st - a) hc1
  obtain ⟨G, hG⟩ : ∃ G, (st - a) % c = G := ⟨_, rfl⟩
  have hg0 : 0 ≤ G := by rw [← hG]; exact Int.emod_nonneg _ (by omega)
  have hg1 : G < c := by rw [← hG]; exact Int.emod_lt_of_pos _ (by omega)
  have ha0 : 0 ≤ a := by omega
  have ha1 : a ≤ 1000000 := by omega
  rw [ha, hG] at hms hmo
  rw [hG] at hge
  have hq1 := Int.lt_tmod_of_pos (st - a) (show 0 < c by omega)
  have hq2 := Int.tmod_lt_of_pos (st - a) (show 0 < c by omega)
  obtain ⟨q, hq⟩ : ∃ q, (st - a).tmod c = q := ⟨_, rfl⟩
  rw [hq] at hge hq1 hq2
  have Hms := Lib.hid hms
  have Hmo := Lib.hid hmo
  obtain ⟨R, hR⟩ : ∃ R, E - f = R := ⟨_, rfl⟩
  have hR0 : -1000000 ≤ R := by rw [← hR]; omega
  have hR1 : R ≤ 1000000 := by rw [← hR]; omega
  have b0 : w.cell? ⟨gb, 0, none⟩ = some (.int .i64 f) := cell_of_block HB.out rfl
  have b1 : w.cell? ⟨gb, 1, none⟩ = some (.int .i64 c) := cell_of_block HB.out rfl
  have p3 := hP.p3
  have p4 := hP.p4
  clear hms hmo hG hP
  conv => arg 4; whnf
  refine wpIn_region_q free_wide (by kernel_rfl) (by kernel_rfl) (by kernel_rfl) ?_
  repeat (go_big_quiet_step (fail))
  refine wpQuiet_nil ?_
  intro _ hw'
  obtain ⟨n1, hw''⟩ := hw'
  subst hw''
  obtain ⟨dV, hdV, HB2, HF3, p3', b1'⟩ : ∃ U, w.drewN n1 = U ∧ Hid (U.heap[gb]? = some (.cells #[.int .i64 f, .int .i64 c] 48 (0, 0))) ∧ Hid (Fr no W0 U) ∧ U.cell? ⟨c3, 0, none⟩ = some (.int .i64 st) ∧ U.cell? ⟨gb, 1, none⟩ = some (.int .i64 c) := ⟨_, rfl, Lib.hid HB.out, Lib.hid (HF.out.drewN n1), p3, b1⟩
  rw [hdV]
  clear p3 p4 b0 b1 HB HF ha hdV
  refine hK _ _ ?_
  conv => arg 4; whnf
  clear hK
  gi_step
  refine wpIn_region_q free_wide (by kernel_rfl) (by kernel_rfl) (by kernel_rfl) ?_
  repeat (go_big_quiet_step (fail))
  refine wpQuiet_nil ?_
  intro _ hw'
  obtain ⟨n2, hw''⟩ := hw'
  subst hw''
  obtain ⟨eV, heV, HB3, HF4⟩ : ∃ U, dV.drewN n2 = U ∧ Hid (U.heap[gb]? = some (.cells #[.int .i64 f, .int .i64 c] 48 (0, 0))) ∧ Hid (Fr no W0 U) := ⟨_, rfl, Lib.hid HB2.out, Lib.hid (HF3.out.drewN n2)⟩
  rw [heV]
  clear p3' b1' HB2 HF3 hge hq1 hq2 hq heV
  gi_step
  gi_step
  exact pos_tail HJ.out (by rw [Hms.out]) Hbx.out HY Hmo.out hR ha0 ha1 hg0 hg1 hc1 hc8 hR0 hR1 hf0 hf1 hgs HF4 HB3 Hn.out He.out Hr.out
set_option maxRecDepth 100000 in
set_option maxHeartbeats 1200000 in
theorem positions_iter (c1 c2 c3 c4 : Nat) (v : Value) (m : Mp) (st frm en : Int) (hst0 : 0 ≤ st) (hst1 : st ≤ 1000) (hf0 : 0 ≤ frm) (hf1 : frm ≤ 1000000) (he0 : 0 ≤ en) (he1 : en ≤ 1000000) (hm : m.length ≤ 1000) (hmx : ∀ x ∈ m, x.1 ≤ 1000000) :
    EachB Fence.wide 2 Tryd.prog 34 #[.pointer (some ⟨c1, 0, none⟩), .pointer (some ⟨c2, 0, none⟩), .pointer (some ⟨c3, 0, none⟩), .pointer (some ⟨c4, 0, none⟩)] encN (PsPre c1 c2 c3 c4 v m st frm en) (mpos m st frm en) := by
  intro l J Jx W hJ hPre hY
  have hP := (hPre _ W hJ).1
  obtain ⟨ao, cap, rfl, hcap, hcx⟩ := hP.ok.cap
  have hck := m_check _ m W hP.ok
  obtain ⟨N, hN⟩ : ∃ N, m.length = N := ⟨_, rfl⟩
  rw [hN] at hP hcap hck hm hPre
  have HN := Lib.hid hN
  have Hck := Lib.hid hck
  have HP := Lib.hid hP
  have HPre := Lib.hid hPre
  have HY := Lib.hid hY
  have p1 := hP.p1
  clear hP hck hPre hY hN
  refine callsIn_of_wp Tryd.func34 rfl trivial ?_ rfl
  simp only [Tryd.ntmps34, List.size_toArray, List.length_cons, List.length_nil, Nat.reduceAdd, Nat.reduceSub, Array.replicate_succ, Array.replicate_zero, List.push_toArray, List.append_toArray, List.nil_append, List.cons_append]
  gi_wp2_with fail
  refine ⟨trivial, callsIn_wide.2 (Hck.out.mono ?_)⟩
  rintro e W1 ⟨rfl, hf⟩
  have HF := Lib.hid hf
  have HP1 := Lib.hid (HP.out.fr hf)
  clear p1 Hck HP hf
  rcases mcheck_two m with hz | hz
  · have hm0 : mpos m st frm en = mposF st frm en m := if_pos hz
    rw [hm0] at hJ
    obtain ⟨k1, k2, k3, k4⟩ := mcheck_ok hz
    have K2 := Lib.hid (fun x hx => And.intro (k2 x hx) (hmx x hx))
    have p1 := HP1.out.p1
    rw [hz]
    clear k1 k2 k3 k4 hz hm0 hmx
    gi_wp2_with fail
    gi_loopw [18] (fun i wr => ∃ (k : Nat), k ≤ N ∧ i = .int .i64 k ∧ ∃ (bx : Option (Nat × Obj)) (W0 : World), J (mposF st frm en (m.drop k), bx) W0 ∧ Hid (Fr no W0 wr)) (fun i _ => N - (intOf i).toNat)
    case atStart => exact ⟨0, Nat.zero_le _, rfl, none, W, hJ, HF⟩
    case round =>
      obtain ⟨k, hk, rfl, bx, W0, hJk, HF0⟩ := hrel
      by_cases hlt : k < N
      · have hPV := (HPre.out _ W0 hJk).1.fr HF0.out
        obtain ⟨x, hxk⟩ : ∃ x, m[k]? = some x := ⟨m[k]'(by rw [HN.out]; exact hlt), by simp⟩
        obtain ⟨g, off, c', he, h0, h1⟩ := mp_cells (w := wr) (v := .slice ao N cap) (m := m) hPV.ok hxk
        rw [HN.out] at he
        cases he
        have hkx := K2.out x (List.mem_of_getElem? hxk)
        obtain ⟨⟨hx0, hc1, hc8⟩, hx1⟩ := hkx
        obtain ⟨f, c⟩ := x
        dsimp only at h0 h1 hx0 hc1 hc8 hx1
        have hfV : Fr no wr (wr.alloc (.cells #[.int .i64 f, .int .i64 c] 48)) := (Fr.refl no wr).alloc _
        have HF2 := Lib.hid (HF0.out.trans' hfV)
        have hPb := hPV.fr hfV
        have HB := Lib.hid (show (wr.alloc (.cells #[.int .i64 f, .int .i64 c] 48)).heap[wr.heap.size]? = some (.cells #[.int .i64 f, .int .i64 c] 48 (0, 0)) from World.alloc_heap_new _ _)
        have hgs : W0.heap.size ≤ wr.heap.size := HF0.out.size
        have p1 := hPb.p1
        have p2 := hPb.p2
        have p3 := hPb.p3
        have p4 := hPb.p4
        clear hfV HF0
        rcases Nat.lt_or_ge (k + 1) N with hk1 | hk1
        · obtain ⟨y, hyk⟩ : ∃ y, m[k + 1]? = some y := ⟨m[k + 1]'(by rw [HN.out]; exact hk1), by simp⟩
          obtain ⟨g2, off2, c2', he2, y0, y1⟩ := mp_cells (w := wr.alloc (.cells #[.int .i64 f, .int .i64 c] 48)) (v := .slice (some ⟨g, off, none⟩) N cap) (m := m) hPb.ok hyk
          rw [HN.out] at he2
          cases he2
          have Hseg := Lib.hid (mposF_more hxk hyk st frm en)
          have hky := K2.out y (List.mem_of_getElem? hyk)
          obtain ⟨⟨hy0, _, _⟩, hy1⟩ := hky
          obtain ⟨E, hE⟩ : ∃ E, min en y.1 = E := ⟨_, rfl⟩
          have hE0 : 0 ≤ E := by omega
          have hE1 : E ≤ 1000000 := by omega
          rw [hE] at Hseg
          obtain ⟨yf, yc⟩ := y
          dsimp only at y0 hy0 hy1 hE Hseg
          clear hPV hxk hyk y1
          have hkN : ¬ (N : Int) ≤ k + 1 := by omega
          have hkN2 : ((k : Int) + 1 < N) := by omega
          have hsk : Hid (∀ (W1 : World), mseg st frm (f, c) E = [] → J (mposF st frm en (m.drop k), bx) W1 → J (mposF st frm en (m.drop (k + 1)), bx) W1) := Lib.hid (fun W1 h1 h2 => by rw [Hseg.out, h1, List.nil_append] at h2; exact h2)
          by_cases hst : st < c
          · have HJ0 : Hid (J (mseg st frm (f, c) E ++ mposF st frm en (m.drop (k + 1)), bx) W0) := Lib.hid (by rw [← Hseg.out]; exact hJk)
            have HK : Hid (k + 1 ≤ N) := Lib.hid hlt
            clear hsk hJk Hseg
            gi_wp2_with fail
            refine pos_mid (by assumption) HJ0 (fun s W h => (HPre.out s W h).2) HY hst0 hst1 hst hf0 hf1 hE0 hE1 hc1 hc8 hx0 hx1 hgs hPb HF2 HB ?_ ?_ ?_
            · unfold PosNext
              rintro u6 u7 u8 u9 u10 u11 u12 u19 u20 u21 u22 u23 u24 u25 u26 u27 u28 u29 u30 u31 u32 u33 u34 u35 u36 u37 u38 u39 u40 u41 u42 u43 u44 u45 u46 u47 u48 u49 u50 u51 u52 u53 u54 u55 u56 u57 u58 u59 u60 u61 u62 u63 u64 u65 u66 u67 u68 u69 u70 u71 u72 u73 u74 u75 u76 u77 u78 u79 u80 u81 u82 u83 u84 u85 u86 u87 u88 u89 u90 u91 u92 u93 u94 u95 u96 u97 u98 u99 u100 u101 u102 u103 u104 w' ⟨bx', W1', hJ', hF'⟩
              have HJ' := Lib.hid hJ'
              have HF' := Lib.hid hF'
              clear hJ' hF' hkN hkN2
              gi_wp2
              go_roundw
              case rel => exact ⟨k + 1, HK.out, by go_num, bx', W1', HJ'.out, HF'⟩
              case measure => have := HK.out; simp [intOf]; omega
            · unfold PosNext
              rintro u6 u7 u8 u9 u10 u11 u12 u19 u20 u21 u22 u23 u24 u25 u26 u27 u28 u29 u30 u31 u32 u33 u34 u35 u36 u37 u38 u39 u40 u41 u42 u43 u44 u45 u46 u47 u48 u49 u50 u51 u52 u53 u54 u55 u56 u57 u58 u59 u60 u61 u62 u63 u64 u65 u66 u67 u68 u69 u70 u71 u72 u73 u74 u75 u76 u77 u78 u79 u80 u81 u82 u83 u84 u85 u86 u87 u88 u89 u90 u91 u92 u93 u94 u95 u96 u97 u98 u99 u100 u101 u102 u103 u104 w' ⟨bx', W1', hJ', hF'⟩
              have HJ' := Lib.hid hJ'
              have HF' := Lib.hid hF'
              clear hJ' hF' hkN hkN2
              gi_wp2
              go_roundw
              case rel => exact ⟨k + 1, HK.out, by go_num, bx', W1', HJ'.out, HF'⟩
              case measure => have := HK.out; simp [intOf]; omega
            · intro t w' hjx
              have HX := Lib.hid hjx
              clear hjx hkN hkN2
              gi_wp2
              refine bodyPost_ret (results_none rfl _ _ _) rfl ?_
              exact ⟨⟨_, rfl⟩, .inr HX.out⟩
          · have hge2 : c ≤ st := by omega
            have HJ2 := Lib.hid (hsk.out _ (mseg_none (.inr hge2)) hJk)
            clear hsk hJk
            gi_wp2
            go_roundw
            case rel => exact ⟨k + 1, by omega, by go_num, bx, W0, HJ2.out, HF2⟩
            case measure => simp [intOf]; omega
        · have hE0 := he0
          have hE1 := he1
          have Hseg := Lib.hid (mposF_last hxk (by rw [HN.out]; omega) st frm en)
          clear hPV hxk
          have hkN : (N : Int) ≤ k + 1 := by omega
          have hkN2 : ¬ ((k : Int) + 1 < N) := by omega
          have hsk : Hid (∀ (W1 : World), mseg st frm (f, c) en = [] → J (mposF st frm en (m.drop k), bx) W1 → J (mposF st frm en (m.drop (k + 1)), bx) W1) := Lib.hid (fun W1 h1 h2 => by rw [Hseg.out, h1, List.nil_append] at h2; exact h2)
          by_cases hst : st < c
          · have HJ0 : Hid (J (mseg st frm (f, c) en ++ mposF st frm en (m.drop (k + 1)), bx) W0) := Lib.hid (by rw [← Hseg.out]; exact hJk)
            have HK : Hid (k + 1 ≤ N) := Lib.hid hlt
            clear hsk hJk Hseg
            gi_wp2_with fail
            refine pos_mid (by assumption) HJ0 (fun s W h => (HPre.out s W h).2) HY hst0 hst1 hst hf0 hf1 hE0 hE1 hc1 hc8 hx0 hx1 hgs hPb HF2 HB ?_ ?_ ?_
            · unfold PosNext
              rintro u6 u7 u8 u9 u10 u11 u12 u19 u20 u21 u22 u23 u24 u25 u26 u27 u28 u29 u30 u31 u32 u33 u34 u35 u36 u37 u38 u39 u40 u41 u42 u43 u44 u45 u46 u47 u48 u49 u50 u51 u52 u53 u54 u55 u56 u57 u58 u59 u60 u61 u62 u63 u64 u65 u66 u67 u68 u69 u70 u71 u72 u73 u74 u75 u76 u77 u78 u79 u80 u81 u82 u83 u84 u85 u86 u87 u88 u89 u90 u91 u92 u93 u94 u95 u96 u97 u98 u99 u100 u101 u102 u103 u104 w' ⟨bx', W1', hJ', hF'⟩
              have HJ' := Lib.hid hJ'
              have HF' := Lib.hid hF'
              clear hJ' hF' hkN hkN2
              gi_wp2
              go_roundw
              case rel => exact ⟨k + 1, HK.out, by go_num, bx', W1', HJ'.out, HF'⟩
              case measure => have := HK.out; simp [intOf]; omega
            · unfold PosNext
              rintro u6 u7 u8 u9 u10 u11 u12 u19 u20 u21 u22 u23 u24 u25 u26 u27 u28 u29 u30 u31 u32 u33 u34 u35 u36 u37 u38 u39 u40 u41 u42 u43 u44 u45 u46 u47 u48 u49 u50 u51 u52 u53 u54 u55 u56 u57 u58 u59 u60 u61 u62 u63 u64 u65 u66 u67 u68 u69 u70 u71 u72 u73 u74 u75 u76 u77 u78 u79 u80 u81 u82 u83 u84 u85 u86 u87 u88 u89 u90 u91 u92 u93 u94 u95 u96 u97 u98 u99 u100 u101 u102 u103 u104 w' ⟨bx', W1', hJ', hF'⟩
              have HJ' := Lib.hid hJ'
              have HF' := Lib.hid hF'
              clear hJ' hF' hkN hkN2
              gi_wp2
              go_roundw
              case rel => exact ⟨k + 1, HK.out, by go_num, bx', W1', HJ'.out, HF'⟩
              case measure => have := HK.out; simp [intOf]; omega
            · intro t w' hjx
              have HX := Lib.hid hjx
              clear hjx hkN hkN2
              gi_wp2
              refine bodyPost_ret (results_none rfl _ _ _) rfl ?_
              exact ⟨⟨_, rfl⟩, .inr HX.out⟩
          · have hge2 : c ≤ st := by omega
            have HJ2 := Lib.hid (hsk.out _ (mseg_none (.inr hge2)) hJk)
            clear hsk hJk
            gi_wp2
            go_roundw
            case rel => exact ⟨k + 1, by omega, by go_num, bx, W0, HJ2.out, HF2⟩
            case measure => simp [intOf]; omega
      · obtain rfl : k = N := by omega
        gi_wp2
        go_end0
        refine ⟨⟨_, rfl⟩, .inl ⟨_, W0, hJk, ?_, HF0.out⟩⟩
        rw [List.drop_eq_nil_of_le (by rw [HN.out]; exact Nat.le_refl _)]; rfl
  · have hm0 : mpos m st frm en = [] := if_neg (by omega)
    rw [hm0] at hJ
    rw [hz]
    gi_wp2
    refine bodyPost_ret (results_none rfl _ _ _) rfl ?_
    exact ⟨⟨_, rfl⟩, .inl ⟨_, W, hJ, rfl, HF.out⟩⟩
end Go.Proofs.YtkdcldnbdhfobaaDoor
