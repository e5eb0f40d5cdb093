/- The law's known (landaulaw10). -/
import Derived.Test.YtlohbikkhojlaaaRgX
import Derived.Test.YtlohbikkhojlaaaTokK
namespace Go.XL
open Go.RowKit Go.Shelf
set_option linter.unusedVariables false
set_option linter.unusedSimpArgs false
abbrev kD (s q : Int) : Dr := mkDr s q (.slice none 0 0) []
abbrev kR0 : Rg := ⟨2, [[], []], 0, 0, 0, [], []⟩
abbrev kR1 : Rg := ⟨2, [[], [kD 0 0]], 0, 0, 0, [], []⟩
abbrev kR2 : Rg := ⟨2, [[kD 1 1], [kD 0 0]], 0, 0, 0, [], []⟩
abbrev kR3 : Rg := ⟨2, [[kD 1 1], [kD 0 0, kD 1 3]], 0, 0, 0, [], []⟩
abbrev kR4 : Rg := ⟨2, [[], [kD 0 0, kD 1 3]], 1, 0, 1, [0, 1], []⟩
abbrev kR5 : Rg := ⟨2, [[], []], 0, 0, 2, [1, 1], [kD 1 3]⟩
abbrev kR6 : Rg := ⟨2, [[]], 0, 0, 2, [1, 1], [kD 1 3]⟩
theorem kp0 : rput kR0 1 (kD 0 0) = (kR1, 0) := by rfl
theorem kp1 : rput kR1 2 (kD 0 0) = (kR1, 1) := by rfl
theorem kp2 : rput kR1 0 (kD 1 1) = (kR2, 0) := by rfl
theorem kp3 : rput kR2 1 (kD 1 3) = (kR3, 0) := by rfl
theorem kp4 : rput kR3 1 (kD 1 4) = (kR3, 6) := by rfl
theorem kt3 : rturn kR3 = kR4 ∧ (rrun kR3).out = [(0, kD 1 1)] := ⟨by rfl, by rfl⟩
theorem kt4 : rturn kR4 = kR5 ∧ (rrun kR4).out = [(1, { kD 0 0 with q := 1 })] := ⟨by rfl, by rfl⟩
theorem kz5 : rresize kR5 1 = kR6 := by rfl
end Go.XL
namespace Go.XL
open Go.RowKit Go.Shelf
theorem kDv (s q t : Int) (h : (if q = 0 then (1 : Int) else 0) = t) : (kD s q).v = .agg #[.int .i64 t, .int .i64 s, .int .i64 q, .slice none 0 0, .string ⟨#[107]⟩, .string ⟨#[]⟩] := by rw [← h]; rfl
theorem ok_kR3 : RgOk kR3 := ⟨(by intro x hx; cases hx), (by decide), (by
  rintro d (hd | ⟨l, hl, hd⟩)
  · cases hd
  · simp only [List.mem_cons, List.not_mem_nil, or_false] at hl
    rcases hl with rfl | rfl
    · simp only [List.mem_cons, List.not_mem_nil, or_false] at hd; subst hd; exact ⟨by decide, by decide⟩
    · simp only [List.mem_cons, List.not_mem_nil, or_false] at hd; rcases hd with rfl | rfl <;> exact ⟨by decide, by decide⟩), (by decide), (by decide), (by decide), (by decide), (by decide)⟩
theorem ok_kR4 : RgOk kR4 := ⟨(by intro x hx; simp only [List.mem_cons, List.not_mem_nil, or_false] at hx; omega), (by decide), (by
  rintro d (hd | ⟨l, hl, hd⟩)
  · cases hd
  · simp only [List.mem_cons, List.not_mem_nil, or_false] at hl
    rcases hl with rfl | rfl
    · cases hd
    · simp only [List.mem_cons, List.not_mem_nil, or_false] at hd; rcases hd with rfl | rfl <;> exact ⟨by decide, by decide⟩), (by decide), (by decide), (by decide), (by decide), (by decide)⟩
theorem nil_in (w : World) (s q : Int) : IntsAt w (kD s q).dv (kD s q).dep := (Sl.nil w 0 1).rd
theorem nil_own (s q : Int) (B : Nat) : ∀ g, (kD s q).dv.ownBlock = some g → B ≤ g := fun g hg => by cases hg
end Go.XL
namespace Go.Proofs.Ytlohbikkhojlaaa
open Go.RowKit Go.Shelf Go.XL
set_option linter.unusedVariables false
set_option linter.unusedSimpArgs false
attribute [local go_sem] Oper.semAt_some
theorem tokNext (a b : Int) (u v : Value) (W : World) : (Instr.field 43 (.agg #[.int .i64 a, .int .i64 b, u, v]) 1).run Try.prog W = .ok (.int .i64 b) W := by kernel_rfl
set_option maxRecDepth 10000 in
set_option maxHeartbeats 4000000 in
theorem rknown10 (w : World) : Calls Try.prog 7 #[] w fun e w' => e = .returned (.bool true) ∧ Fr no w w' := by
  have hn := x_new 0 2 2 w w (Fr.refl no w) (by decide) (by decide) (by decide)
  rw [show ((2 : Nat) : Int) = 2 from rfl] at hn
  have Hn := Lib.hid hn
  clear hn
  go_enter Try.func7, Try.ntmps7
  go_wp2_with fail
  refine Hn.out.mono ?_
  clear Hn
  rintro e w1 ⟨p, rfl, hX⟩
  have X : Hid (RgX w w1 p kR0 (fun _ => False) []) := Lib.hid hX
  clear hX
  go_wp2_with fail
  have hd := law_D 0 0 none 0 0 [] w1
  rw [show (mkDr 0 0 (.slice none 0 0) []).v = _ from kDv 0 0 1 (by decide)] at hd
  refine hd.mono ?_
  clear hd
  rintro e w2 ⟨rfl, hfd⟩
  have hc := x_put X.out hfd 1 (kD 0 0) (nil_in _ _ _) (nil_own _ _ _) (by intro x hx; cases hx) (by decide)
  rw [kDv 0 0 1 (by decide), kp0] at hc
  clear hfd
  go_wp2_with fail
  refine hc.mono ?_
  clear hc
  rintro e w3 ⟨rfl, hX, _⟩
  replace X := Lib.hid hX
  clear hX
  go_wp2_with fail
  have hd := law_D 0 0 none 0 0 [] w3
  rw [show (mkDr 0 0 (.slice none 0 0) []).v = _ from kDv 0 0 1 (by decide)] at hd
  refine hd.mono ?_
  clear hd
  rintro e w4 ⟨rfl, hfd⟩
  have hc := x_put X.out hfd 2 (kD 0 0) (nil_in _ _ _) (nil_own _ _ _) (by intro x hx; cases hx) (by decide)
  rw [kDv 0 0 1 (by decide), kp1] at hc
  clear hfd
  go_wp2_with fail
  refine hc.mono ?_
  clear hc
  rintro e w5 ⟨rfl, hX, _⟩
  replace X := Lib.hid hX
  clear hX
  go_wp2_with fail
  have hd := law_D 1 1 none 0 0 [] w5
  rw [show (mkDr 1 1 (.slice none 0 0) []).v = _ from kDv 1 1 0 (by decide)] at hd
  refine hd.mono ?_
  clear hd
  rintro e w6 ⟨rfl, hfd⟩
  have hc := x_put X.out hfd 0 (kD 1 1) (nil_in _ _ _) (nil_own _ _ _) (by intro x hx; cases hx) (by decide)
  rw [kDv 1 1 0 (by decide), kp2] at hc
  clear hfd
  go_wp2_with fail
  refine hc.mono ?_
  clear hc
  rintro e w7 ⟨rfl, hX, _⟩
  replace X := Lib.hid hX
  clear hX
  go_wp2_with fail
  have hd := law_D 1 3 none 0 0 [] w7
  rw [show (mkDr 1 3 (.slice none 0 0) []).v = _ from kDv 1 3 0 (by decide)] at hd
  refine hd.mono ?_
  clear hd
  rintro e w8 ⟨rfl, hfd⟩
  have hc := x_put X.out hfd 1 (kD 1 3) (nil_in _ _ _) (nil_own _ _ _) (by intro x hx; cases hx) (by decide)
  rw [kDv 1 3 0 (by decide), kp3] at hc
  clear hfd
  go_wp2_with fail
  refine hc.mono ?_
  clear hc
  rintro e w9 ⟨rfl, hX, _⟩
  replace X := Lib.hid hX
  clear hX
  go_wp2_with fail
  have hd := law_D 1 4 none 0 0 [] w9
  rw [show (mkDr 1 4 (.slice none 0 0) []).v = _ from kDv 1 4 0 (by decide)] at hd
  refine hd.mono ?_
  clear hd
  rintro e w10 ⟨rfl, hfd⟩
  have hc := x_put X.out hfd 1 (kD 1 4) (nil_in _ _ _) (nil_own _ _ _) (by intro x hx; cases hx) (by decide)
  rw [kDv 1 4 0 (by decide), kp4] at hc
  clear hfd
  go_wp2_with fail
  refine hc.mono ?_
  clear hc
  rintro e w11 ⟨rfl, hX, _⟩
  replace X := Lib.hid hX
  clear hX
  go_wp2_with fail
  have hc := x_len X.out (by decide) (by decide) (by decide)
  rw [show ((rlen kR3 : Nat) : Int) = 3 from rfl] at hc
  refine hc.mono ?_
  clear hc
  rintro e w12 ⟨rfl, hX, _⟩
  replace X := Lib.hid hX
  clear hX
  go_wp2_with fail
  have hc := x_turn X.out ok_kR3
  rw [kt3.1, kt3.2] at hc
  refine hc.mono ?_
  clear hc
  rintro e w13 ⟨xo, xc, rfl, hX, _⟩
  replace X := Lib.hid (hX.keep (ks' := []) (by intro k hk; cases hk))
  clear hX
  go_wp2_with fail
  have hc := x_at X.out
  refine hc.mono ?_
  clear hc
  rintro e w' ⟨rfl, rfl⟩
  go_wp2_with fail
  have hc := x_turn X.out ok_kR4
  rw [kt4.1, kt4.2] at hc
  refine hc.mono ?_
  clear hc
  rintro e w14 ⟨yo, yc, rfl, hX, _⟩
  replace X : Hid (RgX w w14 p kR5 (fun _ => False) [⟨7, 1, .slice yo 1 yc, slCells [(1, { kD 0 0 with q := 1 })]⟩]) := Lib.hid hX
  clear hX
  go_wp2_with fail
  have hc := x_resize X.out 1 (by decide) (by decide) (by decide) (by decide)
  rw [kz5, show ((1 : Nat) : Int) = 1 from rfl] at hc
  refine hc.mono ?_
  clear hc
  rintro e w15 ⟨rfl, hX⟩
  replace X := Lib.hid hX
  clear hX
  go_wp2_with fail
  have hc := x_begin X.out 1 0 (by decide) (by decide) (by decide) (by decide)
  rw [if_neg (by decide), if_neg (by decide)] at hc
  refine hc.mono ?_
  clear hc
  rintro e w16 ⟨rfl, hX⟩
  replace X := Lib.hid hX
  obtain ⟨yg, yoff, ycap, he, _, _, hy⟩ := Rd.form (hX.row (List.mem_cons_self ..)) (Nat.succ_pos 0)
  cases he
  have y0 : w16.cell? ⟨yg, yoff, none⟩ = some (.int .i64 1) := hy 0 _ rfl
  clear hX hy
  go_wp2_with fail
  have hc := x_len X.out (by decide) (by decide) (by decide)
  rw [show ((rlen kR6 : Nat) : Int) = 1 from rfl] at hc
  refine hc.mono ?_
  clear hc y0
  rintro e w17 ⟨rfl, hX, _⟩
  replace X := Lib.hid hX
  clear hX
  go_wp2_with fail
  have hc := x_token X.out (by decide) (by decide)
  refine hc.mono ?_
  clear hc
  rintro e w18 ⟨so, sc, lo, lc, he, hX⟩
  replace he : e = .returned (.agg #[.int .i64 0, .int .i64 2, .slice so 2 sc, .slice lo 1 lc]) := he
  subst he
  replace X := Lib.hid hX
  clear hX
  have hfl := tokNext 0 2 (.slice so 2 sc) (.slice lo 1 lc)
  go_wp2_with fail
  have hc := x_at X.out
  refine hc.mono ?_
  clear hc
  rintro e w' ⟨rfl, rfl⟩
  go_wp2
  go_ret
  exact ⟨rfl, X.out.fr⟩
end Go.Proofs.Ytlohbikkhojlaaa
