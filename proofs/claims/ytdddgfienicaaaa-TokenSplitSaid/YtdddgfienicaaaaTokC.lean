/- Plain laws of the token: records of one other site, fed one by one. -/
import Derived.Test.YtdddgfienicaaaaTok2
import Derived.Test.YtdddgfienicaaaaTokK
namespace Go.XL
open Go.RowKit Go.Shelf
set_option linter.unusedVariables false
set_option linter.unusedSimpArgs false
def chD (q : Int) : Dr := ⟨0, 1, q, .slice none 0 0, [], ⟨#[107]⟩, ⟨#[]⟩⟩
def chS (x : Int) : List Int := if x = 0 then [] else [0, x]
/-- what is taken, one number behind the other -/
def cgo : Nat → Int → List Int → Int × List Int
  | 0, x, L => (x, L)
  | n + 1, x, L => if x + 1 ∈ L then cgo n (x + 1) (L.erase (x + 1)) else (x, L)
def clate (x : Int) : List Int → List Int → List Int
  | [], acc => acc
  | q :: r, acc => clate x r (if q ≤ x ∨ q ∈ acc then acc else acc ++ [q])
def chOut : Nat → Int → List (Int × Dr)
  | 0, _ => []
  | n + 1, x => (x, chD (x + 1)) :: chOut n (x + 1)
theorem chOut_len : ∀ (n : Nat) (x : Int), (chOut n x).length = n
  | 0, _ => rfl
  | n + 1, x => by simp [chOut, chOut_len n]
theorem chOut_get : ∀ (n : Nat) (x : Int) (j : Nat), j < n → (chOut n x)[j]? = some (x + j, chD (x + j + 1))
  | 0, _, _, h => absurd h (Nat.not_lt_zero _)
  | n + 1, x, 0, _ => by simp [chOut]
  | n + 1, x, j + 1, h => by
    have := chOut_get n (x + 1) j (by omega)
    simp only [chOut, List.getElem?_cons_succ, this]
    congr 2
    · push_cast; omega
    · congr 1; push_cast; omega
theorem chOut_snoc : ∀ (n : Nat) (x : Int), chOut (n + 1) x = chOut n x ++ [(x + n, chD (x + n + 1))]
  | 0, x => by simp [chOut]
  | n + 1, x => by
    rw [chOut, chOut_snoc n (x + 1), chOut, List.cons_append]
    congr 3
    · push_cast; congr 1
      · omega
      · congr 1; omega
theorem vget_chS (x : Int) (hx : 0 ≤ x) : vget (chS x) 1 = x := by
  unfold chS
  split
  · rename_i h; subst h; simp [vget]
  · simp [vget]
theorem vcov_chS (x : Int) (hx : 0 ≤ x) : vcov (chS x) [] = true := by
  unfold chS
  split
  · rfl
  · simp [vcov, List.range_succ, vget, hx]
theorem vwith_chS (x : Int) (hx : 0 ≤ x) : vwith (chS x) 1 (x + 1) = chS (x + 1) := by
  unfold chS
  rw [if_neg (by omega : ¬ x + 1 = 0)]
  split
  · rename_i h; subst h; simp [vwith]
  · simp [vwith]
theorem chS_ok (x : Int) (hx : 0 ≤ x ∧ x ≤ 1048576) : SeenOk (chS x) := by
  intro y hy
  unfold chS at hy
  split at hy
  · simp at hy
  · simp at hy; omega
theorem chS_len (x : Int) : (chS x).length ≤ 2 := by unfold chS; split <;> simp
theorem ch_may (x q : Int) (hx : 0 ≤ x) : dmay 0 (chS x) (chD q) = decide (q = x + 1) := by
  unfold dmay chD
  dsimp only
  rw [if_neg (by decide), vget_chS x hx, vcov_chS x hx, Bool.and_true]
theorem ch_first (x : Int) (hx : 0 ≤ x) : ∀ (L : List Int) (j : Nat), x + 1 ∈ L → ∃ i, afirst (dmay 0 (chS x)) (L.map chD) j = some (j + i, chD (x + 1)) ∧ (L.map chD).eraseIdx i = (L.erase (x + 1)).map chD
  | [], j, h => by simp at h
  | q :: L, j, h => by
    by_cases e : q = x + 1
    · subst e
      exact ⟨0, by simp [afirst, ch_may x _ hx], by simp⟩
    · have hm : x + 1 ∈ L := by rcases List.mem_cons.1 h with h | h; exact absurd h.symm e; exact h
      obtain ⟨i, h1, h2⟩ := ch_first x hx L (j + 1) hm
      refine ⟨i + 1, ?_, ?_⟩
      · simp only [List.map_cons, afirst, ch_may x q hx, e, decide_false, if_neg (by decide : ¬ false = true), h1]
        congr 2; omega
      · rw [List.erase_cons_tail (by simpa using e)]
        simp [h2]
theorem ch_none (x : Int) (hx : 0 ≤ x) : ∀ (L : List Int) (j : Nat), x + 1 ∉ L → afirst (dmay 0 (chS x)) (L.map chD) j = none
  | [], j, h => rfl
  | q :: L, j, h => by
    have e : ¬ q = x + 1 := fun e => h (by simp [e])
    simp only [List.map_cons, afirst, ch_may x q hx, e, decide_false, if_neg (by decide : ¬ false = true)]
    exact ch_none x hx L (j + 1) (fun hm => h (by simp [hm]))
theorem ch_ago : ∀ (n : Nat) (x : Int) (L : List Int) (x0 : Int) (c : Nat), 0 ≤ x0 → x = x0 + c →
    ∃ c', (cgo n x L).1 = x0 + (c' : Nat) ∧ ago 0 n ⟨x, chS x, L.map chD, chOut c x0⟩ = ⟨(cgo n x L).1, chS (cgo n x L).1, (cgo n x L).2.map chD, chOut c' x0⟩
  | 0, x, L, x0, c, h0, hx => ⟨c, hx, rfl⟩
  | n + 1, x, L, x0, c, h0, hx => by
    by_cases hm : x + 1 ∈ L
    · obtain ⟨i, h1, h2⟩ := ch_first x (by omega) L 0 hm
      rw [Nat.zero_add] at h1
      have hs : astep 0 ⟨x, chS x, L.map chD, chOut c x0⟩ i (chD (x + 1)) = ⟨x + 1, chS (x + 1), (L.erase (x + 1)).map chD, chOut (c + 1) x0⟩ := by
        have hf : dfix 0 (chS x) (chD (x + 1)) = chD (x + 1) := by unfold dfix; rw [if_neg (by simp [chD])]
        unfold astep
        rw [hf, h2]
        have hw := vwith_chS x (by omega)
        rw [show (chD (x + 1)).s = 1 from rfl, show (chD (x + 1)).q = x + 1 from rfl, hw, chOut_snoc, ← hx]
      obtain ⟨c', g1, g2⟩ := ch_ago n (x + 1) (L.erase (x + 1)) x0 (c + 1) h0 (by push_cast; omega)
      have hc : cgo (n + 1) x L = cgo n (x + 1) (L.erase (x + 1)) := by rw [cgo, if_pos hm]
      rw [hc]
      have h3 := ago_some (own := 0) (a := ⟨x, chS x, L.map chD, chOut c x0⟩) (i := i) (d := chD (x + 1)) h1 n
      exact ⟨c', g1, by rw [h3, hs, g2]⟩
    · have hc : cgo (n + 1) x L = (x, L) := by rw [cgo, if_neg hm]
      rw [hc]
      refine ⟨c, hx, ?_⟩
      have h1 : afirst (dmay 0 (AS.mk x (chS x) (L.map chD) (chOut c x0)).seen) (AS.mk x (chS x) (L.map chD) (chOut c x0)).left 0 = none := ch_none x (by omega) L 0 hm
      rw [ago_none h1]
theorem ch_gone (x q : Int) (hx : 0 ≤ x) (acc : List Int) : dgone 0 (chS x) (chD q) (acc.map chD) = decide (q ≤ x ∨ q ∈ acc) := by
  unfold dgone
  rw [if_neg (by simp [chD]), show (chD q).s = 1 from rfl, show (chD q).q = q from rfl, vget_chS x hx]
  rw [Bool.eq_iff_iff]
  simp only [Bool.or_eq_true, decide_eq_true_eq, List.any_eq_true, List.mem_map]
  constructor
  · rintro (h | ⟨y, ⟨z, hz, rfl⟩, e⟩)
    · exact .inl h
    · have e : z = q := by simp [chD] at e; exact of_decide_eq_true e
      subst e
      exact .inr hz
  · rintro (h | h)
    · exact .inl h
    · exact .inr ⟨_, ⟨q, h, rfl⟩, by simp [chD]⟩
theorem ch_late (x : Int) (hx : 0 ≤ x) : ∀ (L acc : List Int), alate 0 (chS x) (L.map chD) (acc.map chD) = (clate x L acc).map chD
  | [], acc => rfl
  | q :: L, acc => by
    rw [List.map_cons, alate, ch_gone x q hx, clate]
    by_cases h : q ≤ x ∨ q ∈ acc
    · rw [if_pos (by simpa using h), if_pos h, ch_late x hx L acc]
    · rw [if_neg (by simpa using h), if_neg h]
      have := ch_late x hx L (acc ++ [q])
      simpa using this
/-! what the numbers do -/
theorem cgo_mem : ∀ (n : Nat) (x : Int) (L : List Int) (q : Int), q ∈ (cgo n x L).2 → q ∈ L
  | 0, x, L, q, h => h
  | n + 1, x, L, q, h => by
    rw [cgo] at h
    split at h
    · exact List.mem_of_mem_erase (cgo_mem n _ _ q h)
    · exact h
theorem cgo_le : ∀ (n : Nat) (x : Int) (L : List Int), x ≤ (cgo n x L).1
  | 0, x, L => Int.le_refl _
  | n + 1, x, L => by
    rw [cgo]
    split
    · have := cgo_le n (x + 1) (L.erase (x + 1)); omega
    · exact Int.le_refl _
theorem cgo_bound (k : Int) : ∀ (n : Nat) (x : Int) (L : List Int), x ≤ k → (∀ q ∈ L, q ≤ k) → (cgo n x L).1 ≤ k
  | 0, x, L, h, _ => h
  | n + 1, x, L, h, hL => by
    rw [cgo]
    split
    · rename_i hm; exact cgo_bound k n (x + 1) _ (hL _ hm) (fun q hq => hL q (List.mem_of_mem_erase hq))
    · exact h
theorem cgo_keep : ∀ (n : Nat) (x : Int) (L : List Int) (q : Int), q ∈ L → q ≤ (cgo n x L).1 ∨ q ∈ (cgo n x L).2
  | 0, x, L, q, h => .inr h
  | n + 1, x, L, q, h => by
    rw [cgo]
    split
    · by_cases e : q = x + 1
      · left; have := cgo_le n (x + 1) (L.erase (x + 1)); omega
      · exact cgo_keep n (x + 1) _ q ((List.mem_erase_of_ne e).2 h)
    · exact .inr h
theorem cgo_end : ∀ (n : Nat) (x : Int) (L : List Int), L.length ≤ n → (cgo n x L).1 + 1 ∉ (cgo n x L).2
  | 0, x, L, h => by
    obtain rfl := List.eq_nil_of_length_eq_zero (Nat.le_zero.1 h)
    simp [cgo]
  | n + 1, x, L, h => by
    rw [cgo]
    split
    · rename_i hm
      exact cgo_end n (x + 1) _ (by rw [List.length_erase_of_mem hm]; omega)
    · rename_i hm; exact hm
theorem cgo_len : ∀ (n : Nat) (x : Int) (L : List Int), (cgo n x L).2.length ≤ L.length
  | 0, x, L => Nat.le_refl _
  | n + 1, x, L => by
    rw [cgo]
    split
    · have := cgo_len n (x + 1) (L.erase (x + 1))
      have := List.length_erase_le (a := x + 1) (l := L)
      omega
    · exact Nat.le_refl _
theorem clate_mem (x : Int) : ∀ (L acc : List Int) (q : Int), q ∈ clate x L acc → (q ∈ L ∧ x < q) ∨ q ∈ acc
  | [], acc, q, h => .inr h
  | y :: L, acc, q, h => by
    rw [clate] at h
    rcases clate_mem x L _ q h with h | h
    · exact .inl ⟨by simp [h.1], h.2⟩
    · split at h
      · exact .inr h
      · rename_i hn
        rcases List.mem_append.1 h with h | h
        · exact .inr h
        · simp at h; subst h; exact .inl ⟨by simp, by omega⟩
theorem clate_acc (x : Int) : ∀ (L acc : List Int) (q : Int), q ∈ acc → q ∈ clate x L acc
  | [], acc, q, h => h
  | y :: L, acc, q, h => by
    rw [clate]
    refine clate_acc x L _ q ?_
    split
    · exact h
    · exact List.mem_append_left _ h
theorem clate_keep (x : Int) : ∀ (L acc : List Int) (q : Int), q ∈ L → q ≤ x ∨ q ∈ clate x L acc
  | [], acc, q, h => by simp at h
  | y :: L, acc, q, h => by
    rw [clate]
    rcases List.mem_cons.1 h with rfl | h
    · by_cases hq : q ≤ x
      · exact .inl hq
      · refine .inr (clate_acc x L _ q ?_)
        split
        · rename_i ho; exact ho.resolve_left hq
        · simp
    · exact clate_keep x L _ q h
theorem clate_len (x : Int) : ∀ (L acc : List Int), (clate x L acc).length ≤ L.length + acc.length
  | [], acc => by simp [clate]
  | y :: L, acc => by
    rw [clate]
    have := clate_len x L (if y ≤ x ∨ y ∈ acc then acc else acc ++ [y])
    split at this
    · rename_i h; rw [if_pos h]; simp; omega
    · rename_i h; rw [if_neg h]; simp at this ⊢; omega
/-- what holds behind i numbers fed: m of them in order at the end -/
structure CFed (k : Int) (x : Int) (L : List Int) (i m : Nat) : Prop where
  x0 : 0 ≤ x
  xk : x ≤ k
  mem : ∀ q ∈ L, x < q ∧ q ≤ k
  nxt : x + 1 ∉ L
  len : L.length ≤ i
  fed : ∀ j : Int, 1 ≤ j → j ≤ m → j ≤ x ∨ j ∈ L
theorem CFed.feed {k x : Int} {L : List Int} {i m : Nat} (h : CFed k x L i m) (s : Int) (hs : 1 ≤ s ∧ s ≤ k) (n : Nat) (hn : L.length + 1 ≤ n) (m' : Nat) (hm : m' = m ∨ (m' = m + 1 ∧ s = m + 1)) :
    CFed k (cgo n x (L ++ [s])).1 (clate (cgo n x (L ++ [s])).1 (cgo n x (L ++ [s])).2 []) (i + 1) m' := by
  have hin : ∀ q ∈ L ++ [s], q ≤ k := fun q hq => by
    rcases List.mem_append.1 hq with hq | hq
    · exact (h.mem q hq).2
    · simp at hq; omega
  have hle := cgo_le n x (L ++ [s])
  have hx0 := h.x0
  refine ⟨by omega, cgo_bound k n x _ h.xk hin, fun q hq => ?_, fun hq => ?_, ?_, fun j h1 h2 => ?_⟩
  · rcases clate_mem _ _ _ q hq with hq | hq
    · exact ⟨hq.2, hin q (cgo_mem n x _ q hq.1)⟩
    · simp at hq
  · rcases clate_mem _ _ _ _ hq with hq | hq
    · exact cgo_end n x _ (by simp; omega) hq.1
    · simp at hq
  · have h1 := clate_len (cgo n x (L ++ [s])).1 (cgo n x (L ++ [s])).2 []
    have h2 := cgo_len n x (L ++ [s])
    have h3 := h.len
    simp at h1 h2
    omega
  · have key : ∀ q ∈ L ++ [s], q ≤ (cgo n x (L ++ [s])).1 ∨ q ∈ clate (cgo n x (L ++ [s])).1 (cgo n x (L ++ [s])).2 [] := fun q hq => by
      rcases cgo_keep n x _ q hq with h | h
      · exact .inl h
      · exact clate_keep _ _ [] q h
    by_cases hjm : j ≤ m
    · rcases h.fed j h1 hjm with h3 | h3
      · exact .inl (by omega)
      · exact key j (by simp [h3])
    · refine key j ?_
      rcases hm with rfl | ⟨rfl, hs'⟩
      · omega
      · have : j = s := by push_cast at h2; omega
        simp [this]
theorem CFed.done {k x : Int} {L : List Int} {i m : Nat} (h : CFed k x L i m) (hm : (m : Int) = k) : x = k ∧ L = [] := by
  have hk : x = k := by
    have := h.xk
    by_cases e : x = k
    · exact e
    · have hx := h.x0
      rcases h.fed (x + 1) (by omega) (by omega) with h1 | h1
      · omega
      · exact absurd h1 h.nxt
  refine ⟨hk, ?_⟩
  cases L with
  | nil => rfl
  | cons q L => have := h.mem q (by simp); omega
end Go.XL
