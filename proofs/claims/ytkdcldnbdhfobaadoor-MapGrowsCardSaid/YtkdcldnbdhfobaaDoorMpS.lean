/- Plain laws of a stripe's positions. -/
import Derived.Test.YtkdcldnbdhfobaaDoorMp1
namespace Go.XL
open Go.RowKit Go.Shelf
set_option linter.unusedVariables false
set_option linter.unusedSimpArgs false
/- Plain laws of a stripe's positions. -/
def irange (a b : Int) : List Int := (List.range (b - a).toNat).map fun (k : Nat) => a + (k : Int)
theorem irange_nil {a b : Int} (h : b ≤ a) : irange a b = [] := by
  unfold irange
  rw [show (b - a).toNat = 0 by omega]; rfl
theorem irange_cons {a b : Int} (h : a < b) : irange a b = a :: irange (a + 1) b := by
  unfold irange
  obtain ⟨n, hn⟩ : ∃ n, (b - a).toNat = n + 1 := ⟨(b - a).toNat - 1, by omega⟩
  rw [hn, show (b - (a + 1)).toNat = n by omega, List.range_succ_eq_map, List.map_cons, List.map_map]
  refine congr (congrArg List.cons (by simp)) (List.map_congr_left fun k _ => ?_)
  simp only [Function.comp_apply]
  omega
theorem irange_mem {a b x : Int} : x ∈ irange a b ↔ a ≤ x ∧ x < b := by
  unfold irange
  simp only [List.mem_map, List.mem_range]
  constructor
  · rintro ⟨k, hk, rfl⟩; omega
  · rintro ⟨h1, h2⟩; exact ⟨(x - a).toNat, by omega, by omega⟩
theorem irange_len (a b : Int) : (irange a b).length = (b - a).toNat := by unfold irange; simp
theorem irange_app {b c : Int} (h2 : b ≤ c) : ∀ (n : Nat) (a : Int), (b - a).toNat = n → a ≤ b → irange a c = irange a b ++ irange b c
  | 0, a, hn, h => by
    have : a = b := by omega
    subst this
    rw [irange_nil (Int.le_refl a), List.nil_append]
  | n + 1, a, hn, h => by
    rw [irange_cons (show a < c by omega), irange_cons (show a < b by omega), irange_app h2 n (a + 1) (by omega) (by omega), List.cons_append]
theorem irange_skip (P : Int → Bool) (e : Int) : ∀ (k : Nat) (a : Int), (∀ x, a ≤ x → x < a + k → P x = false) → (irange a e).filter P = (irange (a + k) e).filter P
  | 0, a, _ => by simp
  | k + 1, a, h => by
    by_cases hlt : a < e
    · have ha := h a (Int.le_refl a) (by omega)
      rw [irange_cons hlt, List.filter_cons, ha, irange_skip P e k (a + 1) (fun x h1 h2 => h x (by omega) (by omega)), show a + 1 + (k : Int) = a + ((k + 1 : Nat) : Int) by omega]
      simp
    · rw [irange_nil (by omega), irange_nil (by omega)]
theorem emod_ne {n p j : Int} (h0 : 0 < j) (h1 : j < n) : (p + j) % n ≠ p % n := fun e => by
  have h := Int.emod_eq_emod_iff_emod_sub_eq_zero.1 e
  rw [show p + j - p = j by omega, Int.emod_eq_of_lt (by omega) h1] at h
  omega
theorem gap_eq {a n : Int} (hn : 1 ≤ n) : (a.tmod n + n).tmod n = a % n := by
  have h1 : -n < a.tmod n := by have := Int.lt_tmod_of_pos a (show 0 < n by omega); omega
  rw [Int.tmod_eq_emod_of_nonneg (by omega), Int.tmod_def]
  have : a - n * a.tdiv n + n = a + n * (1 - a.tdiv n) := by rw [Int.mul_sub, Int.mul_one]; omega
  rw [this, Int.add_mul_emod_self_left]
/- Plain laws of a stripe's positions. -/
def mseg (st frm : Int) (x : Int × Int) (e : Int) : List Int := if 0 ≤ st ∧ st < x.2 then (irange (max frm x.1) e).filter (fun p => decide ((p - x.1) % x.2 = st)) else []
def mposF (st frm en : Int) : Mp → List Int
  | [] => []
  | [x] => mseg st frm x en
  | x :: y :: r => mseg st frm x (min en y.1) ++ mposF st frm en (y :: r)
def mpos (m : Mp) (st frm en : Int) : List Int := if mcheck m = 0 then mposF st frm en m else []
theorem mposF_more {m : Mp} {k : Nat} {x y : Int × Int} (h : m[k]? = some x) (h2 : m[k + 1]? = some y) (st frm en : Int) : mposF st frm en (m.drop k) = mseg st frm x (min en y.1) ++ mposF st frm en (m.drop (k + 1)) := by
  obtain ⟨hk, hx⟩ := List.getElem?_eq_some_iff.1 h
  obtain ⟨hk2, hy⟩ := List.getElem?_eq_some_iff.1 h2
  rw [List.drop_eq_getElem_cons hk, List.drop_eq_getElem_cons hk2, hx, hy]
  rfl
theorem mposF_last {m : Mp} {k : Nat} {x : Int × Int} (h : m[k]? = some x) (h2 : m.length = k + 1) (st frm en : Int) : mposF st frm en (m.drop k) = mseg st frm x en ++ mposF st frm en (m.drop (k + 1)) := by
  obtain ⟨hk, hx⟩ := List.getElem?_eq_some_iff.1 h
  rw [List.drop_eq_getElem_cons hk, show m.drop (k + 1) = [] from List.drop_eq_nil_of_le (by omega), hx]
  simp [mposF]
/- Plain laws of a stripe's positions. -/
theorem mseg_step {st f n p e : Int} (hn : 1 ≤ n) (hp : p % n = st) (he : p + f < e) : (irange (p + f) e).filter (fun q => decide ((q - f) % n = st)) = (p + f) :: (irange (p + n + f) e).filter (fun q => decide ((q - f) % n = st)) := by
  rw [irange_cons he, List.filter_cons, if_pos (by rw [decide_eq_true_eq, show p + f - f = p by omega]; exact hp)]
  refine congrArg (List.cons (p + f)) ?_
  have := irange_skip (fun q => decide ((q - f) % n = st)) e (n - 1).toNat (p + f + 1) (fun x h1 h2 => decide_eq_false (fun h => by
    have := emod_ne (n := n) (p := p) (j := x - f - p) (by omega) (by omega)
    rw [show p + (x - f - p) = x - f by omega, hp] at this
    exact this h))
  rw [this, show p + f + 1 + ((n - 1).toNat : Int) = p + n + f by omega]
theorem mseg_first {st frm f n e : Int} (hn : 1 ≤ n) (h0 : 0 ≤ st) (h1 : st < n) : mseg st frm (f, n) e = (irange (max frm f - f + (st - (max frm f - f)) % n + f) e).filter (fun q => decide ((q - f) % n = st)) ∧ (max frm f - f + (st - (max frm f - f)) % n) % n = st := by
  obtain ⟨a, ha⟩ : ∃ a, max frm f - f = a := ⟨_, rfl⟩
  obtain ⟨g, hg⟩ : ∃ g, (st - a) % n = g := ⟨_, rfl⟩
  have g0 : 0 ≤ g := by rw [← hg]; exact Int.emod_nonneg _ (by omega)
  have g1 : g < n := by rw [← hg]; exact Int.emod_lt_of_pos _ (by omega)
  have hag : (a + g) % n = st := by
    rw [← hg, Int.add_emod, Int.emod_emod_of_dvd _ (Int.dvd_refl n), ← Int.add_emod, show a + (st - a) = st by omega, Int.emod_eq_of_lt h0 h1]
  unfold mseg
  dsimp only
  rw [if_pos ⟨h0, h1⟩, ha, hg]
  refine ⟨?_, hag⟩
  have := irange_skip (fun q => decide ((q - f) % n = st)) e g.toNat (max frm f) (fun x h2 h3 => decide_eq_false (fun h => by
    have := emod_ne (n := n) (p := x - f) (j := a + g - (x - f)) (by omega) (by omega)
    rw [show x - f + (a + g - (x - f)) = a + g by omega, hag, h] at this
    exact this rfl))
  rw [this, show max frm f + (g.toNat : Int) = a + g + f by omega]
theorem mseg_none {st frm : Int} {x : Int × Int} {e : Int} (h : st < 0 ∨ x.2 ≤ st) : mseg st frm x e = [] := if_neg (by omega)
theorem mseg_all {st frm : Int} {x : Int × Int} {e : Int} (h0 : 0 ≤ st) (hn : 1 ≤ x.2) : mseg st frm x e = (irange (max frm x.1) e).filter (fun p => decide ((p - x.1) % x.2 = st)) := by
  by_cases h : st < x.2
  · exact if_pos ⟨h0, h⟩
  · rw [mseg_none (.inr (by omega))]
    symm
    rw [List.filter_eq_nil_iff]
    intro p _
    have := Int.emod_lt_of_pos (p - x.1) (show 0 < x.2 by omega)
    simp only [decide_eq_true_eq]
    omega
/-- the span of a position -/
def mstr (p : Int) : Mp → Int × Int
  | [] => (0, 1)
  | [x] => x
  | x :: y :: r => if p < y.1 then x else mstr p (y :: r)
theorem mposF_eq {st frm en : Int} (h0 : 0 ≤ st) : ∀ (r : Mp) (x : Int × Int), (x :: r).Pairwise (fun a b => a.1 ≤ b.1) → (∀ y ∈ x :: r, 1 ≤ y.2) →
    mposF st frm en (x :: r) = (irange (max frm x.1) en).filter (fun p => decide ((p - (mstr p (x :: r)).1) % (mstr p (x :: r)).2 = st))
  | [], x, _, hn => by rw [mposF, mseg_all h0 (hn x (by simp))]; rfl
  | y :: r, x, hp, hn => by
    have hxy : x.1 ≤ y.1 := (List.pairwise_cons.1 hp).1 y (by simp)
    rw [mposF, mseg_all h0 (hn x (by simp)), mposF_eq h0 r y (List.pairwise_cons.1 hp).2 (fun z hz => hn z (by simp [List.mem_cons.1 hz]))]
    have e1 : (irange (max frm x.1) (min en y.1)).filter (fun p => decide ((p - x.1) % x.2 = st)) = (irange (max frm x.1) (min en y.1)).filter (fun p => decide ((p - (mstr p (x :: y :: r)).1) % (mstr p (x :: y :: r)).2 = st)) :=
      List.filter_congr fun p hp => by
        have := (irange_mem.1 hp).2
        rw [mstr, if_pos (by omega)]
    have e2 : (irange (max frm y.1) en).filter (fun p => decide ((p - (mstr p (y :: r)).1) % (mstr p (y :: r)).2 = st)) = (irange (max frm y.1) en).filter (fun p => decide ((p - (mstr p (x :: y :: r)).1) % (mstr p (x :: y :: r)).2 = st)) :=
      List.filter_congr fun p hp => by
        have := (irange_mem.1 hp).1
        rw [mstr, if_neg (by omega)]
    rw [e1, e2, ← List.filter_append]
    refine congrArg _ ?_
    by_cases c1 : y.1 ≤ max frm x.1
    · rw [irange_nil (show min en y.1 ≤ max frm x.1 by omega), List.nil_append, show max frm y.1 = max frm x.1 by omega]
    · by_cases c2 : en ≤ y.1
      · rw [show min en y.1 = en by omega, irange_nil (show en ≤ max frm y.1 by omega), List.append_nil]
      · rw [show min en y.1 = y.1 by omega, show max frm y.1 = y.1 by omega]
        exact (irange_app (by omega) _ _ rfl (by omega)).symm
theorem mback_spec (m : Mp) (p : Int) : ∀ n, (mback m p n ≤ n) ∧ (mback m p n = 0 ∨ (m[mback m p n]?.getD (0, 0)).1 ≤ p) ∧ ∀ j, mback m p n < j → j ≤ n → p < (m[j]?.getD (0, 0)).1
  | 0 => ⟨Nat.le_refl _, .inl rfl, fun j h1 h2 => by omega⟩
  | n + 1 => by
    obtain ⟨i1, i2, i3⟩ := mback_spec m p n
    rw [mback]
    by_cases h : p < (m[n + 1]?.getD (0, 0)).1
    · rw [if_pos h]
      refine ⟨by omega, i2, fun j h1 h2 => ?_⟩
      by_cases e : j = n + 1
      · subst e; exact h
      · exact i3 j h1 (by omega)
    · rw [if_neg h]
      exact ⟨Nat.le_refl _, .inr (by omega), fun j h1 h2 => by omega⟩
theorem mstr_spec (p : Int) : ∀ (r : Mp) (x : Int × Int), (x :: r).Pairwise (fun a b => a.1 ≤ b.1) → ∃ i, i < (x :: r).length ∧ (x :: r)[i]? = some (mstr p (x :: r)) ∧ (i = 0 ∨ (mstr p (x :: r)).1 ≤ p) ∧ ∀ j, i < j → j < (x :: r).length → p < ((x :: r)[j]?.getD (0, 0)).1
  | [], x, _ => ⟨0, by simp, rfl, .inl rfl, fun j h1 h2 => by simp at h2; omega⟩
  | y :: r, x, hp => by
    by_cases h : p < y.1
    · refine ⟨0, by simp, by rw [mstr, if_pos h]; rfl, .inl rfl, fun j h1 h2 => ?_⟩
      obtain ⟨j', rfl⟩ : ∃ j', j = j' + 1 := ⟨j - 1, by omega⟩
      rw [List.getElem?_cons_succ]
      obtain ⟨z, hz⟩ : ∃ z, (y :: r)[j']? = some z := ⟨(y :: r)[j']'(by simp at h2 ⊢; omega), by simp⟩
      rw [hz]
      rcases List.mem_cons.1 (List.mem_of_getElem? hz) with rfl | hm
      · exact h
      · have := (List.pairwise_cons.1 (List.pairwise_cons.1 hp).2).1 z hm
        simp only [Option.getD_some]; omega
    · obtain ⟨i, i1, i2, i3, i4⟩ := mstr_spec p r y (List.pairwise_cons.1 hp).2
      refine ⟨i + 1, by simp at i1 ⊢; omega, by rw [mstr, if_neg h, List.getElem?_cons_succ]; exact i2, .inr ?_, fun j h1 h2 => ?_⟩
      · rw [mstr, if_neg h]
        rcases i3 with i3 | i3
        · subst i3
          simp at i2
          rw [← i2]; omega
        · exact i3
      · obtain ⟨j', rfl⟩ : ∃ j', j = j' + 1 := ⟨j - 1, by omega⟩
        rw [List.getElem?_cons_succ]
        exact i4 j' (by omega) (by simp at h2 ⊢; omega)
theorem mback_mstr {m : Mp} {p : Int} (hne : m ≠ []) (hs : m.Pairwise (fun a b => a.1 ≤ b.1)) : m[mback m p (m.length - 1)]?.getD (0, 0) = mstr p m := by
  cases m with
  | nil => exact absurd rfl hne
  | cons x r =>
    obtain ⟨i, i1, i2, i3, i4⟩ := mstr_spec p r x hs
    obtain ⟨b1, b2, b3⟩ := mback_spec (x :: r) p ((x :: r).length - 1)
    generalize mback (x :: r) p ((x :: r).length - 1) = b at *
    have hb : b = i := by
      rcases Nat.lt_trichotomy b i with h | h | h
      · have := b3 i h (by omega)
        rw [i2] at this
        simp only [Option.getD_some] at this
        omega
      · exact h
      · have := i4 b h (by simp at b1 ⊢; omega)
        omega
    rw [hb, i2]; rfl
theorem mfind_str {m : Mp} {p : Int} (hc : mcheck m = 0) (hp : 0 ≤ p) : (mfind m p).2.1 = (p - (mstr p m).1) % (mstr p m).2 ∧ (mfind m p).2.2 = 0 := by
  obtain ⟨k1, k2, k3, k4⟩ := mcheck_ok hc
  unfold mfind
  rw [if_neg (by omega)]
  dsimp only
  rw [mback_mstr k1 k3]
  exact ⟨rfl, rfl⟩
/- Plain laws of a stripe's positions. -/
theorem mpos_find {m : Mp} {st frm en : Int} (hc : mcheck m = 0) (hst : 0 ≤ st) (hf : 0 ≤ frm) : mpos m st frm en = (irange frm en).filter (fun p => decide ((mfind m p).2.1 = st)) := by
  obtain ⟨k1, k2, k3, k4⟩ := mcheck_ok hc
  unfold mpos
  rw [if_pos hc]
  cases m with
  | nil => exact absurd rfl k1
  | cons x r =>
    rw [mposF_eq hst r x k3 (fun y hy => (k2 y hy).2.1)]
    have : x.1 = 0 := k4 x rfl
    rw [show max frm x.1 = frm by omega]
    refine List.filter_congr fun p hp => ?_
    have := (irange_mem.1 hp).1
    rw [(mfind_str hc (by omega)).1]
theorem mfind_lt {m : Mp} {p : Int} (hc : mcheck m = 0) (hp : 0 ≤ p) : 0 ≤ (mfind m p).2.1 ∧ (mfind m p).2.1 < 8 := by
  rw [(mfind_str hc hp).1]
  obtain ⟨k1, k2, k3, k4⟩ := mcheck_ok hc
  cases m with
  | nil => exact absurd rfl k1
  | cons x r =>
    obtain ⟨i, i1, i2, _⟩ := mstr_spec p r x k3
    have := (k2 _ (List.mem_of_getElem? i2)).2
    have h1 := Int.emod_nonneg (p - (mstr p (x :: r)).1) (show (mstr p (x :: r)).2 ≠ 0 by omega)
    have h2 := Int.emod_lt_of_pos (p - (mstr p (x :: r)).1) (show 0 < (mstr p (x :: r)).2 by omega)
    omega
end Go.XL
