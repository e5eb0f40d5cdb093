/- A ring of own drafts alone: its calls. -/
import Derived.Test.YtlohbikkhojlaaaRgQ
namespace Go.XL
open Go.RowKit Go.Shelf
set_option linter.unusedVariables false
set_option linter.unusedSimpArgs false
/-- some queues have had their turn -/
structure TI (n : Nat) (cs0 : List Nat) (i pos : Nat) (cs : List Nat) : Prop where
  len : cs.length = cs0.length
  hi : ∀ j, i ≤ j → cs[j]? = cs0[j]?
  lo : ∀ j, j < i → cs[j]? = some 0
  sum : pos + cs.sum = n
theorem TI.start {n : Nat} {cs0 : List Nat} (h : cs0.sum = n) : TI n cs0 0 0 cs0 := ⟨rfl, fun _ _ => rfl, fun j h => by omega, by omega⟩
theorem TI.step {n : Nat} {cs0 cs : List Nat} {i pos c : Nat} (h : TI n cs0 i pos cs) (hc : cs0[i]? = some c) : TI n cs0 (i + 1) (pos + c) (cs.set i 0) := by
  have hl := (List.getElem?_eq_some_iff.1 hc).1
  have e : cs[i]? = some c := by rw [h.hi i (Nat.le_refl _)]; exact hc
  refine ⟨by rw [List.length_set]; exact h.len, fun j hj => ?_, fun j hj => ?_, ?_⟩
  · rw [List.getElem?_set_ne (by omega)]; exact h.hi j (by omega)
  · by_cases hji : i = j
    · subst hji
      have := h.len
      rw [List.getElem?_set_self (by omega)]
    · rw [List.getElem?_set_ne hji]; exact h.lo j (by omega)
  · have := sum_set (d := 0) e
    have := h.sum
    omega
theorem sum_zero : ∀ cs : List Nat, (∀ c ∈ cs, c = 0) → cs.sum = 0
  | [], _ => rfl
  | c :: r, h => by rw [List.sum_cons, h c (by simp), sum_zero r (fun x hx => h x (by simp [hx]))]
theorem TI.fin {n : Nat} {cs0 cs : List Nat} {pos : Nat} (h : TI n cs0 cs0.length pos cs) : cs.sum = 0 ∧ pos = n := by
  have h0 : cs.sum = 0 := sum_zero cs (fun c hc => by
    obtain ⟨j, hj⟩ := List.getElem?_of_mem hc
    have hl := (List.getElem?_eq_some_iff.1 hj).1
    have := h.lo j (by have := h.len; omega)
    rw [this] at hj
    cases hj
    rfl)
  exact ⟨h0, by have := h.sum; omega⟩
end Go.XL
namespace Go.Proofs.Ytlohbikkhojlaaa
open Go.RowKit Go.Shelf Go.XL
set_option linter.unusedVariables false
set_option linter.unusedSimpArgs false
variable {w W W' Wb : World} {p : Nat} {Z : Nat → Prop} {ks : List KRow} {cs : List Nat} {i : Nat} {pos : Nat}
theorem kx_put (hb : RgX w Wb p (kRg cs i pos) Z ks) (hf : Fr no Wb W) {q c : Nat} (h : cs[q]? = some c) (hc : c < 64) (hs : cs.sum ≤ 1000) (hp : pos ≤ 1000) :
    Calls Try.prog 9 #[.pointer (some ⟨p, 0, none⟩), .int .i64 (q : Int), .agg #[.int .i64 1, .int .i64 0, .int .i64 0, .slice none 0 0, .string ⟨#[107]⟩, .string ⟨#[]⟩]] W fun e W' => e = .returned (.int .i64 0) ∧ RgX w W' p (kRg (cs.set q (c + 1)) i pos) Z ks ∧ Fr (fun g => ¬ Z g) Wb W' := by
  have := x_put hb hf (q : Int) (kD 0 0) (nil_in _ _ _) (nil_own _ _ _) (kS_ok pos ⟨by omega, by omega⟩) (k_ql hs)
  rw [kDv 0 0 1 (by decide), k_put h hc] at this
  exact this
theorem kx_turn (hb : RgX w W p (kRg cs i pos) Z ks) {c : Nat} (h : cs[i]? = some c) (h8 : cs.length ≤ 8) (hs : cs.sum ≤ 1000) (hp : pos ≤ 1000) :
    Calls Try.prog 12 #[.pointer (some ⟨p, 0, none⟩)] W fun e W' => ∃ oo oc, e = .returned (.slice oo c oc) ∧
      RgX w W' p (kRg (cs.set i 0) ((i + 1) % cs.length) ((pos + c : Nat) : Int)) Z [⟨7, c, .slice oo c oc, slCells (numbered pos (pos + 1) (List.replicate c (kD 0 0)))⟩] ∧ Fr (fun g => ¬ Z g) W W' := by
  have hi := (List.getElem?_eq_some_iff.1 h).1
  have hcs : c ≤ 1000 := by have := sum_le (List.mem_of_getElem? h); omega
  refine (x_turn hb (k_ok hi h8 hs ⟨by omega, by omega⟩)).mono ?_
  rintro e W' ⟨oo, oc, rfl, hX, _, hF⟩
  rw [k_turn h (by omega) (by omega)] at hX
  have e1 : (rrun (kRg cs i pos)).out = numbered pos (pos + 1) (List.replicate c (kD 0 0)) := by rw [k_run h (by omega) (by omega)]
  have e2 : (rrun (kRg cs i pos)).out.length = c := by rw [e1, numbered_len, List.length_replicate]
  rw [e2] at hX
  rw [e1] at hX
  refine ⟨oo, oc, by rw [e2], ?_, hF⟩
  rw [Int.natCast_add]
  exact hX.keep (fun k hk => by simp at hk; subst hk; exact List.mem_cons_self ..)
theorem kx_len (hb : RgX w W p (kRg cs i pos) Z ks) (h8 : cs.length ≤ 8) (hs : cs.sum ≤ 1000) : Calls Try.prog 13 #[.pointer (some ⟨p, 0, none⟩)] W fun e W' => e = .returned (.int .i64 ((cs.sum : Nat) : Int)) ∧ RgX w W' p (kRg cs i pos) Z ks ∧ Fr no W W' := by
  have := x_len hb (by show (qOf cs).length ≤ 8; rw [qOf_len]; exact h8) (k_ql hs) (by rw [k_len]; omega)
  rw [k_len] at this
  exact this
theorem kx_token (hb : RgX w W p (kRg cs i pos) Z ks) : Calls Try.prog 14 #[.pointer (some ⟨p, 0, none⟩)] W fun e W' => ∃ so' sn sc' lo' lc', e = .returned (.agg #[.int .i64 0, .int .i64 (pos : Int), .slice so' sn sc', .slice lo' 0 lc']) ∧ RgX w W' p (kRg cs i pos) Z ks := by
  refine (x_token hb (by have := kS_len (pos : Int); show (kS _).length ≤ _; omega) (by simp)).mono ?_
  rintro e W' ⟨so, sc, lo, lc, rfl, hX⟩
  exact ⟨so, _, sc, lo, lc, rfl, hX⟩
theorem kx_at (hb : RgX w W p (kRg cs i pos) Z ks) : Calls Try.prog 11 #[.pointer (some ⟨p, 0, none⟩)] W fun e W' => e = .returned (.int .i64 (i : Int)) ∧ W = W' := x_at hb
theorem kx_resize (hb : RgX w W p (kRg cs i pos) Z ks) (N : Nat) (hN : 1 ≤ N ∧ N ≤ 8) (h1 : 1 ≤ cs.length) (h8 : cs.length ≤ 8) (hs : cs.sum ≤ 1000) :
    Calls Try.prog 16 #[.pointer (some ⟨p, 0, none⟩), .int .i64 (N : Int)] W fun e W' => ∃ cs' : List Nat, e = .returned (.int .i64 0) ∧ cs'.length = N ∧ cs'.sum = cs.sum ∧ RgX w W' p (kRg cs' (if N ≤ i then 0 else i) pos) Z ks := by
  obtain ⟨cs', e1, e2, e3⟩ := k_resize cs i N pos h1 hN.1
  have := x_resize hb N hN (by show 1 ≤ (qOf cs).length; rw [qOf_len]; exact h1) (by show (qOf cs).length ≤ 8; rw [qOf_len]; exact h8) (k_ql hs)
  rw [e1] at this
  exact this.mono (fun e W' h => ⟨cs', h.1, e2, e3, h.2⟩)
theorem kx_new (k : Nat) (hk : 1 ≤ k ∧ k ≤ 8) (hf : Fr no w W) :
    Calls Try.prog 8 #[.int .i64 0, .int .i64 (k : Int), .int .i64 64] W fun e W' => ∃ p, e = .returned (.tuple #[.pointer (some ⟨p, 0, none⟩), .int .i64 0]) ∧ RgX w W' p (kRg (List.replicate k 0) 0 ((0 : Nat) : Int)) (fun _ => False) [] := by
  refine (x_new 0 k 64 w W hf (by decide) hk (by decide)).mono ?_
  rintro e W' ⟨p, rfl, hX⟩
  refine ⟨p, rfl, ?_⟩
  have : qOf (List.replicate k 0) = List.replicate k [] := by simp [qOf]
  show RgX w W' p ⟨64, qOf (List.replicate k 0), 0, 0, 0, [], []⟩ _ _
  rw [this]
  exact hX
end Go.Proofs.Ytlohbikkhojlaaa
