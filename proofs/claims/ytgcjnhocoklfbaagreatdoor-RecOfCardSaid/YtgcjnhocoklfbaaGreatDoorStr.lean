/- Plain laws of texts: decimal numbers, parts between blanks. -/
import Derived.Lib.AtoiAllCases
import Derived.Lib.ItoaNum
import Derived.Lib.ItoaMem
import Derived.Lib.SlTrimSet
import Derived.Lib.Split
import Derived.Lib.Join
import Derived.Lib.CountLaws
import Derived.Lib.IndexBytes
import Derived.Lib.Strings
namespace Go.XL
set_option linter.unusedVariables false
set_option linter.unusedSimpArgs false
def isDig (c : UInt8) : Bool := decide (48 ≤ c.toNat) && decide (c.toNat ≤ 57)
/-- the ten digits -/
def tenL : List UInt8 := [48, 49, 50, 51, 52, 53, 54, 55, 56, 57]
theorem tenL_has (c : UInt8) : tenL.contains c = isDig c := by
  unfold tenL isDig
  rw [Bool.eq_iff_iff]
  simp [← UInt8.toNat_inj]
  omega
/-- a decimal without leading noughts -/
def digs (l : List UInt8) : Bool := !l.isEmpty && l.all isDig && !(decide (1 < l.length) && (l.head? == some 48))
/-- its number -/
def dgo (n : Nat) (l : List UInt8) : Nat := l.foldl (fun n c => n * 10 + (c.toNat - 48)) n
def dval (l : List UInt8) : Nat := dgo 0 l
theorem dgo_cons (n : Nat) (c : UInt8) (l : List UInt8) : dgo n (c :: l) = dgo (n * 10 + (c.toNat - 48)) l := by unfold dgo; rw [List.foldl_cons]
theorem dgo_app (n : Nat) (l : List UInt8) (c : UInt8) : dgo n (l ++ [c]) = dgo n l * 10 + (c.toNat - 48) := by simp [dgo]
theorem dgo_ge (l : List UInt8) : ∀ n, n ≤ dgo n l := by
  induction l with
  | nil => exact fun n => Nat.le_refl _
  | cons c l ih =>
    intro n
    rw [dgo_cons]
    exact Nat.le_trans (by omega) (ih (n * 10 + (c.toNat - 48)))
theorem trimS_digits (l : List UInt8) : Lib.trimS l tenL = [] ↔ l.all isDig = true := by
  have hp : ∀ m : List UInt8, m.dropWhile (tenL.contains ·) = [] ↔ m.all isDig = true := fun m => by
    induction m with
    | nil => simp
    | cons c m ih =>
      rw [List.dropWhile_cons, List.all_cons]
      by_cases h : tenL.contains c = true
      · rw [if_pos h, ih, ← tenL_has, h]; simp
      · rw [if_neg h, ← tenL_has]
        simp only [Bool.not_eq_true] at h
        rw [h]; simp
  unfold Lib.trimS Lib.trimLeftS Lib.trimRightS
  rw [hp]
  constructor
  · intro h
    by_cases h2 : l.reverse.dropWhile (tenL.contains ·) = []
    · have := (hp _).1 h2
      rw [List.all_reverse] at this
      exact this
    · exfalso
      have h3 : (l.reverse.dropWhile (tenL.contains ·)).all isDig = true := by rw [List.all_reverse] at h; exact h
      obtain ⟨c, m, e⟩ := List.exists_cons_of_ne_nil h2
      have h4 := List.head_dropWhile_not (p := (tenL.contains ·)) h2
      rw [e, List.all_cons] at h3
      have hc : isDig c = true := by
        simp only [Bool.and_eq_true] at h3
        exact h3.1
      simp only [e, List.head_cons] at h4
      rw [tenL_has, hc] at h4
      cases h4
  · intro h
    have h1 : l.reverse.dropWhile (tenL.contains ·) = [] := (hp _).2 (by rw [List.all_reverse]; exact h)
    rw [h1]; rfl
theorem dig_bounds {c : UInt8} (h : isDig c = true) : 48 ≤ c.toNat ∧ c.toNat ≤ 57 := by
  unfold isDig at h
  simpa using h
theorem parse_dig (l : List UInt8) : ∀ acc, l.all isDig = true → Lib.parseUint10 acc l = .ok (dgo acc l) ∧ dgo acc l < 18446744073709551616 ∨ (Lib.parseUint10 acc l = .range ∧ 9223372036854775808 ≤ dgo acc l) ∨ (l = [] ∧ 18446744073709551616 ≤ acc) := by
  induction l with
  | nil =>
    intro acc _
    by_cases h : acc < 18446744073709551616
    · exact .inl ⟨rfl, h⟩
    · exact .inr (.inr ⟨rfl, by omega⟩)
  | cons c r ih =>
    intro acc h
    rw [List.all_cons, Bool.and_eq_true] at h
    obtain ⟨h1, h2⟩ := h
    have hd := dig_bounds h1
    rw [Lib.parseUint10, if_pos hd, dgo_cons]
    have hge := dgo_ge r (acc * 10 + (c.toNat - 48))
    by_cases a1 : 1844674407370955162 ≤ acc
    · rw [if_pos a1]
      exact .inr (.inl ⟨rfl, by omega⟩)
    · rw [if_neg a1]
      by_cases a2 : 18446744073709551616 ≤ acc * 10 + (c.toNat - 48)
      · rw [if_pos a2]
        exact .inr (.inl ⟨rfl, by omega⟩)
      · rw [if_neg a2]
        rcases ih _ h2 with h3 | h3 | h3
        · exact .inl h3
        · exact .inr (.inl h3)
        · omega
/-- what Atoi says of digits -/
theorem atoi_dig {l : List UInt8} (h : l.all isDig = true) (hne : l ≠ []) : (Lib.atoiAll l = .ok (dval l) ∧ dval l < 9223372036854775808) ∨ (Lib.atoiAll l = .range ∧ 9223372036854775808 ≤ dval l) := by
  obtain ⟨c, r, rfl⟩ := List.exists_cons_of_ne_nil hne
  have hc : isDig c = true := by rw [List.all_cons, Bool.and_eq_true] at h; exact h.1
  have hd := dig_bounds hc
  rw [Lib.atoiAll_plain c r (by omega) (by omega)]
  unfold Lib.parseMag
  rw [if_neg (by simp)]
  have hs : ∀ e, Lib.signless e = Lib.signless e := fun _ => rfl
  rcases parse_dig (c :: r) 0 h with ⟨h1, h2⟩ | ⟨h1, h2⟩ | ⟨h1, _⟩
  · rw [h1]
    unfold Lib.signless
    by_cases a : 9223372036854775808 ≤ dgo 0 (c :: r)
    · exact .inr ⟨by simp [a], a⟩
    · exact .inl ⟨by simp [a, dval], by unfold dval; omega⟩
  · rw [h1]
    exact .inr ⟨rfl, h2⟩
  · cases h1
/-! ### numbers in words, and back -/
theorem decDigits_dig : ∀ n : Nat, (Lib.decDigits n).all isDig = true ∧ Lib.decDigits n ≠ [] ∧ dval (Lib.decDigits n) = n ∧ ((Lib.decDigits n).head? = some 48 → n = 0) := by
  intro n
  induction n using Nat.strongRecOn with
  | _ n ih =>
    have hb : ∀ k, k < 10 → (UInt8.ofNat (48 + k)).toNat = 48 + k := fun k hk => by
      rw [UInt8.toNat_ofNat']; omega
    rw [Lib.decDigits]
    by_cases h : n < 10
    · rw [dif_pos h]
      refine ⟨?_, by simp, ?_, ?_⟩
      · simp [isDig, hb n h]; omega
      · show dgo 0 [_] = n
        rw [dgo_cons, hb n h]
        show 0 * 10 + (48 + n - 48) = n
        omega
      · intro h2
        rw [List.head?_cons] at h2
        have := congrArg UInt8.toNat (Option.some.inj h2)
        rw [hb n h] at this
        have e48 : (48 : UInt8).toNat = 48 := rfl
        omega
    · rw [dif_neg h]
      obtain ⟨i1, i2, i3, i4⟩ := ih (n / 10) (by omega)
      have hm : n % 10 < 10 := by omega
      refine ⟨?_, by simp, ?_, ?_⟩
      · rw [List.all_append, i1]
        simp [isDig, hb _ hm]; omega
      · rw [dval, dgo_app]
        show dval _ * 10 + _ = n
        rw [i3, hb _ hm]; omega
      · intro h2
        rw [List.head?_append, (by cases e : Lib.decDigits (n / 10) with | nil => exact absurd e i2 | cons a b => rfl : (Lib.decDigits (n / 10)).head?.or [UInt8.ofNat (48 + n % 10)].head? = (Lib.decDigits (n / 10)).head?)] at h2
        have := i4 h2
        omega
theorem digs_decDigits (n : Nat) : digs (Lib.decDigits n) = true := by
  obtain ⟨i1, i2, i3, i4⟩ := decDigits_dig n
  unfold digs
  rw [i1]
  have e1 : (Lib.decDigits n).isEmpty = false := by rw [List.isEmpty_eq_false_iff]; exact i2
  rw [e1]
  by_cases h : (Lib.decDigits n).head? = some 48
  · have := i4 h
    subst this
    rw [Lib.decDigits_one (by decide)]
    rfl
  · simp [h]
theorem dgo_split (l : List UInt8) : ∀ n, dgo n l = n * 10 ^ l.length + dgo 0 l := by
  induction l with
  | nil => intro n; simp [dgo]
  | cons c l ih =>
    intro n
    rw [dgo_cons, dgo_cons, ih, ih (0 * 10 + _), List.length_cons, Nat.pow_succ, Nat.add_mul, Nat.zero_mul, Nat.zero_add]
    rw [Nat.mul_assoc, Nat.mul_comm 10 (10 ^ l.length)]
    omega
/-- a decimal is its number in words -/
theorem decDigits_dval : ∀ (k : Nat) (l : List UInt8), l.length = k → digs l = true → Lib.decDigits (dval l) = l := by
  intro k
  induction k with
  | zero =>
    intro l hl h
    have : l = [] := List.eq_nil_of_length_eq_zero hl
    subst this
    cases h
  | succ k ih =>
    intro l hl h
    rcases List.eq_nil_or_concat l with rfl | ⟨m, c, e⟩
    · cases hl
    · rw [List.concat_eq_append] at e
      subst e
      have hm : m.length = k := by simpa using hl
      unfold digs at h
      simp only [Bool.and_eq_true, Bool.not_eq_true', List.all_append, List.all_cons, List.all_nil, Bool.and_true] at h
      obtain ⟨⟨_, h2, h3⟩, h4⟩ := h
      have hc := dig_bounds h3
      have e1 : dval (m ++ [c]) = dval m * 10 + (c.toNat - 48) := dgo_app 0 m c
      have hcb : UInt8.ofNat (48 + (c.toNat - 48)) = c := by rw [show 48 + (c.toNat - 48) = c.toNat by omega]; simp
      cases m with
      | nil =>
        rw [e1, Lib.decDigits_one (by simp [dval, dgo]; omega)]
        simp [dval, dgo, hcb]
      | cons b m =>
        have hb : b ≠ 48 := fun e => by subst e; simp at h4
        have hd : digs (b :: m) = true := by
          unfold digs
          rw [h2]
          simp [hb]
        have hpos : 1 ≤ dval (b :: m) := by
          have hb2 : isDig b = true := by rw [List.all_cons, Bool.and_eq_true] at h2; exact h2.1
          have := dig_bounds hb2
          have hb3 : b.toNat ≠ 48 := fun e => hb (by rw [← UInt8.toNat_inj]; exact e)
          have := dgo_ge m (0 * 10 + (b.toNat - 48))
          show 1 ≤ dgo 0 (b :: m)
          rw [dgo_cons]
          omega
        rw [e1, Lib.decDigits, dif_neg (by omega), show (dval (b :: m) * 10 + (c.toNat - 48)) / 10 = dval (b :: m) by omega, show (dval (b :: m) * 10 + (c.toNat - 48)) % 10 = c.toNat - 48 by omega, ih _ hm hd, hcb]
theorem dval_zero {l : List UInt8} (h : digs l = true) : dval l = 0 ↔ l = [48] := by
  constructor
  · intro e
    have := decDigits_dval l.length l rfl h
    rw [e, Lib.decDigits_one (by decide)] at this
    exact this.symm
  · intro e
    subst e
    rfl
/-! ### parts between blanks -/
def wsplit : List UInt8 → List (List UInt8)
  | [] => [[]]
  | c :: r => if c = 32 then [] :: wsplit r else match wsplit r with
    | w :: ws => (c :: w) :: ws
    | [] => [[c]]
theorem wsplit_ne (l : List UInt8) : wsplit l ≠ [] := by
  cases l with
  | nil => simp [wsplit]
  | cons c r =>
    rw [wsplit]
    split
    · simp
    · split <;> simp
/-- the parts, and a blank between each -/
def wjoin : List (List UInt8) → List UInt8
  | [] => []
  | [w] => w
  | w :: w2 :: ws => w ++ 32 :: wjoin (w2 :: ws)
theorem wjoin_cons (w : List UInt8) (ws : List (List UInt8)) (h : ws ≠ []) : wjoin (w :: ws) = w ++ 32 :: wjoin ws := by
  obtain ⟨a, b, rfl⟩ := List.exists_cons_of_ne_nil h
  rfl
theorem wjoin_split (l : List UInt8) : wjoin (wsplit l) = l := by
  induction l with
  | nil => rfl
  | cons c r ih =>
    rw [wsplit]
    have hn := wsplit_ne r
    split
    · rename_i h
      rw [wjoin_cons _ _ hn, ih, h]; rfl
    · split
      · rename_i w ws e
        rw [e] at ih
        cases ws with
        | nil => rw [wjoin] at ih ⊢; rw [ih]
        | cons a b => rw [wjoin] at ih ⊢; rw [← ih]; rfl
      · rename_i e
        exact absurd e hn
theorem wsplit_word (w : List UInt8) (h : ∀ c ∈ w, c ≠ 32) : wsplit w = [w] := by
  induction w with
  | nil => rfl
  | cons c r ih =>
    rw [wsplit, if_neg (h c (by simp)), ih (fun c hc => h c (by simp [hc]))]
theorem wsplit_cons (w : List UInt8) (h : ∀ c ∈ w, c ≠ 32) (l : List UInt8) : wsplit (w ++ 32 :: l) = w :: wsplit l := by
  induction w with
  | nil => rw [List.nil_append, wsplit, if_pos rfl]
  | cons c r ih => rw [List.cons_append, wsplit, if_neg (h c (by simp)), ih (fun c hc => h c (by simp [hc]))]
theorem wsplit_join : ∀ ws : List (List UInt8), ws ≠ [] → (∀ w ∈ ws, ∀ c ∈ w, c ≠ 32) → wsplit (wjoin ws) = ws
  | [], h, _ => absurd rfl h
  | [w], _, h => wsplit_word w (h w (by simp))
  | w :: w2 :: ws, _, h => by
    rw [wjoin, wsplit_cons w (h w (by simp)), wsplit_join (w2 :: ws) (by simp) (fun v hv => h v (by simp only [List.mem_cons] at hv ⊢; exact .inr hv))]
theorem wjoin_join (ws : List (List UInt8)) : Lib.join ws [32] = wjoin ws := by
  induction ws with
  | nil => rfl
  | cons w ws ih =>
    cases ws with
    | nil => rw [Lib.join_one]; rfl
    | cons a b =>
      rw [Lib.join_cons, wjoin, ← ih, Lib.join_cons]
      simp [Lib.joinTail]
theorem digs_no32 {w : List UInt8} (h : digs w = true) : ∀ c ∈ w, c ≠ 32 := by
  intro c hc e
  unfold digs at h
  simp only [Bool.and_eq_true] at h
  have := List.all_eq_true.1 h.1.2 c hc
  subst e
  cases this
theorem indexByte_miss (c : UInt8) : ∀ l : List UInt8, Lib.indexByte l c = -1 → ∀ x ∈ l, x ≠ c
  | [], _, x, hx => by simp at hx
  | b :: l, h, x, hx => by
    have hge := Lib.indexByte_ge l c
    unfold Lib.indexByte at h
    by_cases hb : (b == c) = true
    · rw [if_pos hb] at h; cases h
    · rw [if_neg hb] at h
      have hbc : b ≠ c := by simpa using hb
      by_cases h1 : (Lib.indexByte l c == -1) = true
      · have h2 : Lib.indexByte l c = -1 := by simpa using h1
        rcases List.mem_cons.1 hx with rfl | hx
        · exact hbc
        · exact indexByte_miss c l h2 x hx
      · rw [if_neg h1] at h
        have h2 : Lib.indexByte l c ≠ -1 := by simpa using h1
        omega
theorem indexByte_hit (c : UInt8) : ∀ (l : List UInt8) (i : Nat), Lib.indexByte l c = i → ∃ w r, l = w ++ c :: r ∧ w.length = i ∧ ∀ x ∈ w, x ≠ c
  | [], i, h => by simp [Lib.indexByte] at h
  | b :: l, i, h => by
    have hge := Lib.indexByte_ge l c
    unfold Lib.indexByte at h
    by_cases hb : (b == c) = true
    · rw [if_pos hb] at h
      have hbc : b = c := by simpa using hb
      exact ⟨[], l, by rw [hbc]; rfl, by simp; omega, by simp⟩
    · rw [if_neg hb] at h
      have hbc : b ≠ c := by simpa using hb
      by_cases h1 : (Lib.indexByte l c == -1) = true
      · rw [if_pos h1] at h; omega
      · rw [if_neg h1] at h
        have h2 : Lib.indexByte l c ≠ -1 := by simpa using h1
        obtain ⟨w, r, e, hl, hw⟩ := indexByte_hit c l (i - 1) (by omega)
        refine ⟨b :: w, r, by rw [e]; rfl, by simp; omega, fun x hx => ?_⟩
        rcases List.mem_cons.1 hx with rfl | hx
        · exact hbc
        · exact hw x hx
theorem split_wsplit : ∀ (k : Nat) (l : List UInt8), l.length = k → Lib.splitK [32] 0 (Lib.count l [32]) l = wsplit l := by
  intro k
  induction k using Nat.strongRecOn with
  | _ k ih =>
    intro l hl
    have hi := Lib.index_one l 32
    have hge := Lib.indexByte_ge l 32
    by_cases h : Lib.indexByte l 32 = -1
    · rw [Lib.count_miss (by rw [hi]; exact h), wsplit_word l (indexByte_miss 32 l h)]
      rfl
    · obtain ⟨i, hi2⟩ : ∃ i : Nat, Lib.indexByte l 32 = i := ⟨(Lib.indexByte l 32).toNat, by omega⟩
      obtain ⟨w, r, e, hw1, hw2⟩ := indexByte_hit 32 l i hi2
      have hid : Lib.index l [32] = i := by rw [hi]; exact hi2
      have hd : l.drop (i + 1) = r := by
        rw [e, ← hw1, show w.length + 1 = w.length + 1 from rfl, List.drop_append]
        simp
      have htk : l.take i = w := by rw [e, ← hw1]; simp
      rw [Lib.count_hit (by simp) hid]
      show Lib.splitK [32] 0 (1 + Lib.count (l.drop (i + 1)) [32]) l = _
      rw [Nat.add_comm 1, Lib.splitK, if_neg (by rw [hid, beq_iff_eq]; omega), hid]
      show l.take (i + 0) :: Lib.splitK [32] 0 _ (l.drop (i + 1)) = _
      rw [Nat.add_zero, hd, htk, ih r.length (by rw [e] at hl; simp at hl; omega) r rfl, e, wsplit_cons w hw2]
theorem pre_one (c : UInt8) (l : List UInt8) : Lib.hasPrefix l [c] = decide (l.head? = some c) := by
  unfold Lib.hasPrefix
  cases l with
  | nil => rfl
  | cons b r =>
    show (c == b && true) = _
    rw [Bool.and_true, List.head?_cons, Bool.eq_iff_iff, beq_iff_eq, decide_eq_true_eq]
    constructor
    · intro h; rw [h]
    · intro h; exact (Option.some.inj h).symm
theorem suf_one (c : UInt8) (l : List UInt8) : Lib.hasSuffix l [c] = decide (l.getLast? = some c) := by
  unfold Lib.hasSuffix List.isSuffixOf
  rw [List.getLast?_eq_head?_reverse]
  have := pre_one c l.reverse
  unfold Lib.hasPrefix at this
  simpa using this
theorem trimPre_one (c : UInt8) (l : List UInt8) : Lib.trimPrefix l [c] = if l.head? = some c then l.tail else l := by
  unfold Lib.trimPrefix
  rw [pre_one]
  by_cases h : l.head? = some c
  · rw [if_pos h, if_pos (by simpa using h)]; simp
  · rw [if_neg h, if_neg (by simpa using h)]
theorem trimSuf_one (c : UInt8) (l : List UInt8) : Lib.trimSuffix l [c] = if l.getLast? = some c then l.dropLast else l := by
  unfold Lib.trimSuffix
  rw [suf_one]
  by_cases h : l.getLast? = some c
  · rw [if_pos h, if_pos (by simpa using h), List.dropLast_eq_take]; rfl
  · rw [if_neg h, if_neg (by simpa using h)]
end Go.XL
