/- Plain laws of the ring: own drafts alone, that hang on nothing. -/
import Derived.Test.YtlohbikkhojlaaaRgX
import Derived.Test.YtlohbikkhojlaaaTokP
import Derived.Test.YtlohbikkhojlaaaRgK
namespace Go.XL
open Go.RowKit Go.Shelf
set_option linter.unusedVariables false
set_option linter.unusedSimpArgs false
def kS (s : Int) : List Int := if s = 0 then [] else [s]
def qOf (cs : List Nat) : List (List Dr) := cs.map fun n => List.replicate n (kD 0 0)
abbrev kRg (cs : List Nat) (i : Nat) (pos : Int) : Rg := ⟨64, qOf cs, i, 0, pos, kS pos, []⟩
theorem vget_kS (x : Int) : vget (kS x) 0 = x := by
  unfold kS
  split
  · rename_i h; subst h; simp [vget]
  · simp [vget]
theorem vcov_kS (x : Int) (hx : 0 ≤ x) : vcov (kS x) [] = true := by
  unfold kS
  split
  · rfl
  · simp [vcov, List.range_succ, vget, hx]
theorem vwith_kS (x : Int) (hx : 0 ≤ x) : vwith (kS x) 0 (x + 1) = kS (x + 1) := by
  unfold kS
  rw [if_neg (by omega : ¬ x + 1 = 0)]
  split
  · rename_i h; subst h; simp [vwith]
  · simp [vwith]
theorem kS_ok (x : Int) (hx : 0 ≤ x ∧ x ≤ 1048576) : SeenOk (kS x) := by
  intro y hy
  unfold kS at hy
  split at hy
  · simp at hy
  · simp at hy; omega
theorem kS_len (x : Int) : (kS x).length ≤ 1 := by unfold kS; split <;> simp
theorem k_may (x : Int) (hx : 0 ≤ x ∧ x < 1048576) : dmay 0 (kS x) (kD 0 0) = true := by
  unfold dmay
  rw [if_pos (show (kD 0 0).s = 0 from rfl), show (kD 0 0).s = 0 from rfl, vget_kS x, show (kD 0 0).dep = [] from rfl, vcov_kS x hx.1]
  simp [mkDr, hx.2]
theorem k_step (s next : Int) (hs : 0 ≤ s) (left : List Dr) (out : List (Int × Dr)) (i : Nat) :
    astep 0 ⟨next, kS s, left, out⟩ i (kD 0 0) = ⟨next + 1, kS (s + 1), left.eraseIdx i, out ++ [(next, { kD 0 0 with q := s + 1 })]⟩ := by
  have hf : dfix 0 (kS s) (kD 0 0) = { kD 0 0 with q := s + 1 } := by
    unfold dfix
    rw [if_pos (show (kD 0 0).s = 0 from rfl), vget_kS]
  have hw := vwith_kS s hs
  unfold astep
  dsimp only
  rw [hf]
  exact congrArg (fun v => AS.mk (next + 1) v (left.eraseIdx i) (out ++ [(next, { kD 0 0 with q := s + 1 })])) hw
theorem k_ago : ∀ (m n : Nat) (next s : Int) (out : List (Int × Dr)), m ≤ n → 0 ≤ s → s + m < 1048576 →
    ago 0 n ⟨next, kS s, List.replicate m (kD 0 0), out⟩ = ⟨next + m, kS (s + m), [], out ++ numbered next (s + 1) (List.replicate m (kD 0 0))⟩
  | 0, n, next, s, out, hn, h0, hs => by
    rw [ago_none (by rfl)]
    simp [numbered]
  | m + 1, n, next, s, out, hn, h0, hs => by
    obtain ⟨n, rfl⟩ : ∃ k, n = k + 1 := ⟨n - 1, by omega⟩
    push_cast at hs
    have h1 := ago_some (own := 0) (a := ⟨next, kS s, kD 0 0 :: List.replicate m (kD 0 0), out⟩) (i := 0) (d := kD 0 0) (by
      simp only [afirst, k_may s ⟨h0, by omega⟩, if_true]) n
    rw [List.replicate_succ, h1, k_step s next h0, List.eraseIdx_cons_zero, k_ago m n (next + 1) (s + 1) _ (by omega) (by omega) (by omega)]
    simp only [numbered, List.append_assoc, List.cons_append, List.nil_append]
    congr 1
    · push_cast; omega
    · congr 1; push_cast; omega
theorem qOf_get {cs : List Nat} {i c : Nat} (h : cs[i]? = some c) : (qOf cs)[i]? = some (List.replicate c (kD 0 0)) := by simp [qOf, h]
theorem qOf_set (cs : List Nat) (i c : Nat) : (qOf cs).set i (List.replicate c (kD 0 0)) = qOf (cs.set i c) := by simp [qOf, List.map_set]
theorem qOf_len (cs : List Nat) : (qOf cs).length = cs.length := by simp [qOf]
theorem qOf_mem {cs : List Nat} {l : List Dr} (h : l ∈ qOf cs) : ∃ c ∈ cs, l = List.replicate c (kD 0 0) := by
  obtain ⟨c, hc, rfl⟩ := List.mem_map.1 h
  exact ⟨c, hc, rfl⟩
theorem qOf_sum : ∀ cs : List Nat, (qOf cs).flatten = List.replicate cs.sum (kD 0 0)
  | [] => rfl
  | c :: r => by
    have := qOf_sum r
    simp only [qOf, List.map_cons, List.flatten_cons, List.sum_cons] at this ⊢
    rw [this, List.replicate_append_replicate]
theorem k_run {cs : List Nat} {i c : Nat} {pos : Int} (h : cs[i]? = some c) (h0 : 0 ≤ pos) (hs : pos + c < 1048576) :
    rrun (kRg cs i pos) = ⟨pos + c, kS (pos + c), [], numbered pos (pos + 1) (List.replicate c (kD 0 0))⟩ := by
  unfold rrun
  dsimp only
  rw [qOf_get h]
  have := k_ago c (0 + c) pos pos [] (by omega) h0 hs
  simpa using this
theorem k_turn {cs : List Nat} {i c : Nat} {pos : Int} (h : cs[i]? = some c) (h0 : 0 ≤ pos) (hs : pos + c < 1048576) :
    rturn (kRg cs i pos) = kRg (cs.set i 0) ((i + 1) % cs.length) (pos + c) := by
  have e := qOf_set cs i 0
  rw [List.replicate_zero] at e
  unfold rturn
  rw [k_run h h0 hs]
  dsimp only
  rw [e, qOf_len]
  rfl
theorem k_put {cs : List Nat} {q c i : Nat} {pos : Int} (h : cs[q]? = some c) (hc : c < 64) : rput (kRg cs i pos) (q : Int) (kD 0 0) = (kRg (cs.set q (c + 1)) i pos, 0) := by
  have hq : q < cs.length := (List.getElem?_eq_some_iff.1 h).1
  have e : (qOf cs)[(q : Int).toNat]? = some (List.replicate c (kD 0 0)) := qOf_get h
  have e2 := qOf_set cs q (c + 1)
  unfold rput
  dsimp only
  rw [if_neg (by rw [qOf_len]; omega), e, if_neg (by simp; omega)]
  simp only [Option.getD_some, Int.toNat_natCast]
  rw [show List.replicate c (kD 0 0) ++ [kD 0 0] = List.replicate (c + 1) (kD 0 0) from (List.replicate_succ' ..).symm, e2]
theorem sum_le {cs : List Nat} {c : Nat} (h : c ∈ cs) : c ≤ cs.sum := by
  induction cs with
  | nil => cases h
  | cons x r ih =>
    rw [List.sum_cons]
    rcases List.mem_cons.1 h with rfl | h
    · omega
    · have := ih h; omega
theorem sum_set {cs : List Nat} {i c d : Nat} (h : cs[i]? = some c) : (cs.set i d).sum + c = cs.sum + d := by
  induction cs generalizing i with
  | nil => simp at h
  | cons x r ih => cases i with
    | zero => simp at h; subst h; simp; omega
    | succ i => simp at h; have := ih h; simp; omega
theorem k_ok {cs : List Nat} {i : Nat} {pos : Int} (hi : i < cs.length) (h8 : cs.length ≤ 8) (hs : cs.sum ≤ 1000) (h0 : 0 ≤ pos ∧ pos ≤ 1000) : RgOk (kRg cs i pos) :=
  ⟨kS_ok pos ⟨h0.1, by omega⟩, (by have := kS_len pos; show (kS pos).length ≤ 1000; omega), (by
    rintro d (hd | ⟨l, hl, hd⟩)
    · cases hd
    · obtain ⟨c, _, rfl⟩ := qOf_mem hl
      have := List.eq_of_mem_replicate hd
      subst this
      exact ⟨by decide, by decide⟩), h0.1, (by show pos ≤ _; omega), (by show i < (qOf cs).length; rw [qOf_len]; exact hi), (by show (qOf cs).length ≤ 8; rw [qOf_len]; exact h8), (by
    intro l hl
    obtain ⟨c, hc, rfl⟩ := qOf_mem hl
    have := sum_le hc
    show 0 + _ ≤ _
    rw [List.length_replicate]; omega)⟩
theorem k_ql {cs : List Nat} (hs : cs.sum ≤ 1000) : ∀ l ∈ qOf cs, l.length ≤ 1000 := by
  intro l hl
  obtain ⟨c, hc, rfl⟩ := qOf_mem hl
  have := sum_le hc
  rw [List.length_replicate]; omega
theorem k_resize (cs : List Nat) (i N : Nat) (pos : Int) (h1 : 1 ≤ cs.length) (hN : 1 ≤ N) : ∃ cs', rresize (kRg cs i pos) N = kRg cs' (if N ≤ i then 0 else i) pos ∧ cs'.length = N ∧ cs'.sum = cs.sum := by
  unfold rresize
  dsimp only
  rw [qOf_len]
  by_cases h : N < cs.length
  · rw [if_pos h]
    have e0 : cs[0]? = some cs[0] := by simp
    have e1 : ((cs.take N)[0]? : Option Nat) = some cs[0] := by rw [List.getElem?_take_of_lt (by omega)]; exact e0
    refine ⟨(cs.take N).set 0 (cs[0] + (cs.drop N).sum), ?_, by simp; omega, ?_⟩
    · have e2 : (qOf cs).drop N = qOf (cs.drop N) := by simp [qOf, List.map_drop]
      have e3 : (qOf cs).take N = qOf (cs.take N) := by simp [qOf, List.map_take]
      rw [qOf_get e0, e2, e3, qOf_sum, Option.getD_some, List.replicate_append_replicate, qOf_set]
    · have h2 := sum_set (d := cs[0] + (cs.drop N).sum) e1
      have h3 : cs.sum = (cs.take N).sum + (cs.drop N).sum := by rw [← List.sum_append_nat, List.take_append_drop]
      omega
  · rw [if_neg h]
    refine ⟨cs ++ List.replicate (N - cs.length) 0, ?_, by simp; omega, by simp⟩
    simp [qOf, List.map_append]
end Go.XL
namespace Go.Proofs.Ytlohbikkhojlaaa
open Go.RowKit Go.Shelf Go.XL
theorem k_len (cs : List Nat) (i : Nat) (pos : Int) : rlen (kRg cs i pos) = cs.sum := by
  unfold rlen
  dsimp only
  rw [qOf_sum]
  simp
end Go.Proofs.Ytlohbikkhojlaaa
