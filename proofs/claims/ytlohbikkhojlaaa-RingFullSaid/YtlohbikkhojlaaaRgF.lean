/- Plain laws of the ring, and its calls: drafts that wait for one of another site. -/
import Derived.Test.YtlohbikkhojlaaaRgR
namespace Go.XL
open Go.RowKit Go.Shelf
set_option linter.unusedVariables false
set_option linter.unusedSimpArgs false
/-- an own draft that waits for the first one of site 1 -/
structure FW (d : Dr) : Prop where
  s : d.s = 0
  q : d.q = 0
  dep : d.dep = [0, 1]
abbrev fRg (room : Int) (q late : List Dr) : Rg := ⟨room, [q], 0, 0, 0, [], late⟩
theorem fw_may {d : Dr} (h : FW d) : dmay 0 [] d = false := by
  unfold dmay
  rw [h.dep]
  simp [vcov, List.range_succ, vget]
theorem fw_may1 {d : Dr} (h : FW d) (s : Int) (hs : 0 ≤ s ∧ s < 1048576) : dmay 0 [s, 1] d = true := by
  have hg : vget [s, 1] 0 = s := by simp [vget]
  unfold dmay
  rw [if_pos h.s, h.s, h.q, h.dep, hg]
  simp [vcov, List.range_succ, vget, hs.1, hs.2]
theorem fw_step {d : Dr} (h : FW d) (s next : Int) (left : List Dr) (out : List (Int × Dr)) (i : Nat) :
    astep 0 ⟨next, [s, 1], left, out⟩ i d = ⟨next + 1, [s + 1, 1], left.eraseIdx i, out ++ [(next, { d with q := s + 1 })]⟩ := by
  have hf : dfix 0 [s, 1] d = { d with q := s + 1 } := by
    unfold dfix
    rw [if_pos h.s]
    simp [vget]
  unfold astep
  rw [hf, h.s]
  simp [vwith]
theorem fw_ago : ∀ (r : List Dr) (n : Nat) (next s : Int) (out : List (Int × Dr)), (∀ d ∈ r, FW d) → r.length ≤ n → 0 ≤ s → s + r.length < 1048576 →
    ago 0 n ⟨next, [s, 1], r, out⟩ = ⟨next + r.length, [s + r.length, 1], [], out ++ numbered next (s + 1) r⟩
  | [], n, next, s, out, hr, hn, h0, hs => by
    rw [ago_none (by rfl)]
    simp [numbered]
  | d :: r, n, next, s, out, hr, hn, h0, hs => by
    have hd := hr d (by simp)
    simp only [List.length_cons] at hn hs
    obtain ⟨n, rfl⟩ : ∃ m, n = m + 1 := ⟨n - 1, by omega⟩
    have h1 := ago_some (own := 0) (a := ⟨next, [s, 1], d :: r, out⟩) (i := 0) (d := d) (by
      simp only [afirst, fw_may1 hd s ⟨h0, by push_cast at hs; omega⟩, if_true]) n
    rw [h1, fw_step hd s next, List.eraseIdx_cons_zero, fw_ago r n (next + 1) (s + 1) _ (fun x hx => hr x (by simp [hx])) (by omega) (by omega) (by push_cast at hs; omega)]
    simp only [List.length_cons, numbered, List.append_assoc, List.cons_append, List.nil_append]
    congr 1
    · push_cast; omega
    · congr 1; push_cast; omega
theorem fw_late : ∀ (l acc : List Dr), (∀ d ∈ l, FW d) → alate 0 [] l acc = acc ++ l
  | [], acc, _ => by simp [alate]
  | d :: r, acc, h => by
    have hd := h d (by simp)
    have : dgone 0 [] d acc = false := by unfold dgone; rw [if_pos hd.s, hd.q]; rfl
    rw [alate, this, if_neg (by decide), fw_late r _ (fun x hx => h x (by simp [hx]))]
    simp
theorem fw_run {room : Int} {q late : List Dr} (h : ∀ d ∈ late ++ q, FW d) : rrun (fRg room q late) = ⟨0, [], late ++ q, []⟩ := by
  unfold rrun
  dsimp only
  simp only [List.getElem?_cons_zero, Option.getD_some]
  exact ago_none (own := 0) (a := ⟨0, [], late ++ q, []⟩) (afirst_none _ 0 (fun x hx => fw_may (h x hx))) _
theorem fw_turn {room : Int} {q late : List Dr} (h : ∀ d ∈ late ++ q, FW d) : rturn (fRg room q late) = fRg room [] (late ++ q) := by
  unfold rturn
  rw [fw_run h]
  dsimp only
  rw [fw_late _ _ h]
  simp
theorem fw_put {room : Int} {q late : List Dr} (d : Dr) (h1 : (q.length : Int) < room) (h2 : late.length < 64 ∨ dmay 0 [] d = true) : rput (fRg room q late) 0 d = (fRg room (q ++ [d]) late, 0) := by
  unfold rput
  dsimp only
  rw [if_neg (by simp), if_neg (by
    simp
    refine ⟨h1, fun h => ?_⟩
    rcases h2 with h2 | h2
    · omega
    · exact h2)]
  simp
theorem fw_full {room : Int} {q late : List Dr} (d : Dr) (h : room ≤ (q.length : Int) ∨ 64 ≤ late.length ∧ dmay 0 [] d = false) : rput (fRg room q late) 0 d = (fRg room q late, 6) := by
  unfold rput
  dsimp only
  rw [if_neg (by simp), if_pos (by simpa using h)]
theorem fw_ok {room : Int} {q late : List Dr} (h : ∀ d ∈ late ++ q, 0 ≤ d.q ∧ d.q ≤ 1048576) (hq : q.length ≤ 64) (hl : late.length ≤ 64) : RgOk (fRg room q late) :=
  ⟨(by intro x hx; cases hx), (show (0 : Nat) ≤ 1000 by decide), (by
    rintro d (hd | ⟨l, hl, hd⟩)
    · exact h d (by simp at hd; simp [hd])
    · simp at hl; subst hl; exact h d (by simp [hd])), (show (0 : Int) ≤ 0 by decide), (show (0 : Int) ≤ 1099511627776 by decide), (show (0 : Nat) < 1 by decide), (show (1 : Nat) ≤ 8 by decide), (by intro l hl; simp at hl; subst hl; show late.length + _ ≤ _; omega)⟩
theorem fw_q {l : List Dr} (h : ∀ d ∈ l, FW d) : ∀ d ∈ l, 0 ≤ d.q ∧ d.q ≤ 1048576 := fun d hd => by rw [(h d hd).q]; decide
/-- the last turn -/
theorem fw_last_run {room : Int} {late : List Dr} (h : ∀ d ∈ late, FW d) (hl : late.length = 64) : rrun (fRg room [kD 1 1] late) = ⟨65, [64, 1], [], (0, kD 1 1) :: numbered 1 1 late⟩ := by
  unfold rrun
  dsimp only
  simp only [List.getElem?_cons_zero, Option.getD_some, List.length_singleton]
  have hsk := afirst_skip (p := dmay 0 []) late [kD 1 1] 0 (fun y hy => fw_may (h y hy))
  have hm : dmay 0 [] (kD 1 1) = true := by rfl
  have h1 := ago_some (own := 0) (a := ⟨0, [], late ++ [kD 1 1], []⟩) (i := late.length) (d := kD 1 1) (by
    rw [hsk]
    simp [afirst, hm]) late.length
  have hst : astep 0 ⟨0, [], late ++ [kD 1 1], []⟩ late.length (kD 1 1) = ⟨1, [0, 1], late, [(0, kD 1 1)]⟩ := by
    have he := erase_mid late [] (kD 1 1)
    simp only [List.append_nil] at he
    unfold astep
    dsimp only
    rw [he]
    rfl
  rw [h1, hst, fw_ago late late.length 1 0 _ h (Nat.le_refl _) (by decide) (by omega), hl]
  rfl
theorem fw_last_turn {room : Int} {late : List Dr} (h : ∀ d ∈ late, FW d) (hl : late.length = 64) : rturn (fRg room [kD 1 1] late) = ⟨room, [[]], 0, 0, 65, [64, 1], []⟩ := by
  unfold rturn
  rw [fw_last_run h hl]
  dsimp only
  simp [alate]
end Go.XL
namespace Go.Proofs.Ytlohbikkhojlaaa
open Go.RowKit Go.Shelf Go.XL
set_option linter.unusedVariables false
set_option linter.unusedSimpArgs false
variable {w W W' Wb : World} {p : Nat} {Z : Nat → Prop} {ks : List KRow} {room : Int} {q late : List Dr}
abbrev dV (a : Option Addr) : Value := .agg #[.int .i64 1, .int .i64 0, .int .i64 0, .slice a 2 2, .string ⟨#[107]⟩, .string ⟨#[]⟩]
theorem fx_D (a : Option Addr) (w : World) : Calls Try.prog 10 #[.int .i64 0, .int .i64 0, .slice a 2 2] w fun e w' => e = .returned (.agg #[.int .i64 1, .int .i64 0, .int .i64 0, .slice a 2 2, .string ⟨#[107]⟩, .string ⟨#[]⟩]) ∧ Fr no w w' := by
  have hd := law_D 0 0 a 2 2 [0, 1] w
  rw [show (mkDr 0 0 (.slice a 2 2) [0, 1]).v = .agg #[.int .i64 1, .int .i64 0, .int .i64 0, .slice a 2 2, .string ⟨#[107]⟩, .string ⟨#[]⟩] from rfl] at hd
  exact hd
theorem fw_mk (a : Option Addr) : FW (mkDr 0 0 (.slice a 2 2) [0, 1]) := ⟨rfl, rfl, rfl⟩
theorem fx_in (hb : Fr no (Wb.alloc (.cells #[.int .i64 0, .int .i64 1] 3)) W) : IntsAt W (.slice (some ⟨Wb.heap.size, 0, none⟩) 2 2) [0, 1] :=
  Rd.fr (rd_blk (World.alloc_heap_new Wb (.cells #[.int .i64 0, .int .i64 1] 3))) hb (fun _ _ _ f => f)
theorem fx_put (hb : RgX w Wb p (fRg room q late) Z ks) (hf : Fr no (Wb.alloc (.cells #[.int .i64 0, .int .i64 1] 3)) W) (hq : ∀ d ∈ q, FW d) (h1 : (q.length : Int) < room) (h2 : late.length < 64) (h3 : q.length ≤ 64) :
    Calls Try.prog 9 #[.pointer (some ⟨p, 0, none⟩), .int .i64 0, .agg #[.int .i64 1, .int .i64 0, .int .i64 0, .slice (some ⟨Wb.heap.size, 0, none⟩) 2 2, .string ⟨#[107]⟩, .string ⟨#[]⟩]] W fun e W' => ∃ q' : List Dr, e = .returned (.int .i64 0) ∧ q'.length = q.length + 1 ∧ (∀ d ∈ q', FW d) ∧ RgX w W' p (fRg room q' late) Z ks := by
  have := x_put hb (((Fr.refl no Wb).alloc _).trans' hf) 0 (mkDr 0 0 (.slice (some ⟨Wb.heap.size, 0, none⟩) 2 2) [0, 1]) (fx_in hf) (by intro g hg; cases hg; exact Nat.le_refl _) (by intro x hx; cases hx) (by intro l hl; simp at hl; subst hl; omega)
  rw [fw_put _ h1 (.inl h2)] at this
  refine Calls.mono this ?_
  rintro e W' ⟨rfl, hX, _⟩
  refine ⟨_, rfl, by simp, fun d hd => ?_, hX⟩
  rcases List.mem_append.1 hd with hd | hd
  · exact hq d hd
  · simp at hd; subst hd; exact fw_mk _
theorem fx_full (hb : RgX w Wb p (fRg room q late) Z ks) (hf : Fr no (Wb.alloc (.cells #[.int .i64 0, .int .i64 1] 3)) W) (h : room ≤ (q.length : Int) ∨ 64 ≤ late.length) (h3 : q.length ≤ 64) :
    Calls Try.prog 9 #[.pointer (some ⟨p, 0, none⟩), .int .i64 0, .agg #[.int .i64 1, .int .i64 0, .int .i64 0, .slice (some ⟨Wb.heap.size, 0, none⟩) 2 2, .string ⟨#[107]⟩, .string ⟨#[]⟩]] W fun e W' => e = .returned (.int .i64 6) ∧ RgX w W' p (fRg room q late) Z ks := by
  have := x_put hb (((Fr.refl no Wb).alloc _).trans' hf) 0 (mkDr 0 0 (.slice (some ⟨Wb.heap.size, 0, none⟩) 2 2) [0, 1]) (fx_in hf) (by intro g hg; cases hg; exact Nat.le_refl _) (by intro x hx; cases hx) (by intro l hl; simp at hl; subst hl; omega)
  rw [fw_full _ (h.imp id (fun h => ⟨h, fw_may (fw_mk _)⟩))] at this
  refine Calls.mono this ?_
  rintro e W' ⟨rfl, hX, _⟩
  exact ⟨rfl, hX⟩
theorem fx_turn (hb : RgX w W p (fRg room q late) Z ks) (h : ∀ d ∈ late ++ q, FW d) (hq : q.length ≤ 64) (hl : late.length ≤ 64) :
    Calls Try.prog 12 #[.pointer (some ⟨p, 0, none⟩)] W fun e W' => ∃ oo oc, e = .returned (.slice oo 0 oc) ∧ RgX w W' p (fRg room [] (late ++ q)) Z ks := by
  have := x_turn hb (fw_ok (fw_q h) hq hl)
  rw [fw_turn h, fw_run h] at this
  refine Calls.mono this ?_
  rintro e W' ⟨oo, oc, rfl, hX, _, _⟩
  exact ⟨oo, oc, rfl, hX.keep (fun k hk => List.mem_cons_of_mem _ hk)⟩
theorem fx_len (hb : RgX w W p (fRg room q late) Z ks) (hq : q.length ≤ 64) (hl : late.length ≤ 64) : Calls Try.prog 13 #[.pointer (some ⟨p, 0, none⟩)] W fun e W' => e = .returned (.int .i64 ((late.length + q.length : Nat) : Int)) ∧ RgX w W' p (fRg room q late) Z ks := by
  have e : rlen (fRg room q late) = late.length + q.length := by unfold rlen; simp
  have := x_len hb (by show [q].length ≤ 8; simp) (by intro l hl; simp at hl; subst hl; omega) (by rw [e]; omega)
  rw [e] at this
  refine Calls.mono this ?_
  rintro e W' ⟨rfl, hX, _⟩
  exact ⟨rfl, hX⟩
/-- a draft that hangs on nothing -/
theorem fx_other (hb : RgX w Wb p (fRg room [] late) Z ks) (hf : Fr no Wb W) (n : Int) (hn : 1 ≤ n) (hr : 0 < room) (hl : late.length = 64) :
    Calls Try.prog 9 #[.pointer (some ⟨p, 0, none⟩), .int .i64 0, .agg #[.int .i64 0, .int .i64 1, .int .i64 n, .slice none 0 0, .string ⟨#[107]⟩, .string ⟨#[]⟩]] W fun e W' => e = .returned (.int .i64 (if n = 1 then 0 else 6)) ∧ RgX w W' p (fRg room (if n = 1 then [kD 1 1] else []) late) Z ks := by
  have := x_put hb hf 0 (kD 1 n) (nil_in _ _ _) (nil_own _ _ _) (by intro x hx; cases hx) (by intro l hl; simp at hl; subst hl; simp)
  rw [kDv 1 n 0 (if_neg (by omega))] at this
  by_cases h1 : n = 1
  · subst h1
    rw [fw_put _ (by simpa using hr) (.inr (by rfl))] at this
    refine Calls.mono this ?_
    rintro e W' ⟨rfl, hX, _⟩
    exact ⟨rfl, hX⟩
  · have hm : dmay 0 [] (kD 1 n) = false := by
      unfold dmay
      simp [mkDr, vget, h1]
    rw [fw_full _ (.inr ⟨by omega, hm⟩)] at this
    refine Calls.mono this ?_
    rintro e W' ⟨rfl, hX, _⟩
    rw [if_neg h1, if_neg h1]
    exact ⟨rfl, hX⟩
theorem fx_D1 (n : Int) (hn : 1 ≤ n) (w : World) : Calls Try.prog 10 #[.int .i64 1, .int .i64 n, .slice none 0 0] w fun e w' => e = .returned (.agg #[.int .i64 0, .int .i64 1, .int .i64 n, .slice none 0 0, .string ⟨#[107]⟩, .string ⟨#[]⟩]) ∧ Fr no w w' := by
  have hd := law_D 1 n none 0 0 [] w
  rw [show (mkDr 1 n (.slice none 0 0) []).v = _ from kDv 1 n 0 (if_neg (by omega))] at hd
  exact hd
theorem fx_last (hb : RgX w W p (fRg room [kD 1 1] late) Z ks) (h : ∀ d ∈ late, FW d) (hl : late.length = 64) :
    Calls Try.prog 12 #[.pointer (some ⟨p, 0, none⟩)] W fun e W' => ∃ g off oc, e = .returned (.slice (some ⟨g, off, none⟩) 65 oc) ∧ 65 ≤ oc ∧ oc ≤ 9223372036854775807 ∧ W'.cell? ⟨g, off + 2, none⟩ = some (.int .i64 1) ∧ RgX w W' p ⟨room, [[]], 0, 0, 65, [64, 1], []⟩ Z [] := by
  have := x_turn hb (fw_ok (q := [kD 1 1]) (late := late) (fun d hd => by
    rcases List.mem_append.1 hd with hd | hd
    · exact fw_q h d hd
    · simp at hd; subst hd; exact ⟨by decide, by decide⟩) (by simp) (by omega))
  have e2 : ((0, kD 1 1) :: numbered 1 1 late : List (Int × Dr)).length = 65 := by simp [numbered_len, hl]
  rw [fw_last_turn h hl, fw_last_run h hl] at this
  dsimp only at this
  rw [e2] at this
  refine Calls.mono this ?_
  rintro e W' ⟨oo, oc, rfl, hX, _, _⟩
  obtain ⟨g, off, c', he, hc1, hc2, hc⟩ := Rd.form (hX.row (List.mem_cons_self ..)) (Nat.succ_pos 64)
  cases he
  exact ⟨g, off, oc, rfl, hc1, hc2, hc 2 (.int .i64 1) rfl, hX.keep (fun k hk => by cases hk)⟩
end Go.Proofs.Ytlohbikkhojlaaa
