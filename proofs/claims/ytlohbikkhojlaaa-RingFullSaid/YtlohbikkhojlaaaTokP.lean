/- Plain laws of the token: own drafts in their order. -/
import Derived.Test.YtlohbikkhojlaaaTok2
namespace Go.XL
open Go.RowKit Go.Shelf
set_option linter.unusedVariables false
set_option linter.unusedSimpArgs false
def numbered : Int → Int → List Dr → List (Int × Dr)
  | _, _, [] => []
  | p, q, d :: r => (p, { d with q := q }) :: numbered (p + 1) (q + 1) r
theorem numbered_len : ∀ (l : List Dr) (p q : Int), (numbered p q l).length = l.length
  | [], _, _ => rfl
  | d :: r, p, q => by simp [numbered, numbered_len r]
theorem numbered_get : ∀ (l : List Dr) (p q : Int) (k : Nat) (d : Dr), l[k]? = some d → (numbered p q l)[k]? = some (p + k, { d with q := q + k })
  | [], _, _, _, _, h => by simp at h
  | x :: r, p, q, 0, d, h => by simp at h; subst h; simp [numbered]
  | x :: r, p, q, k + 1, d, h => by
    have := numbered_get r (p + 1) (q + 1) k d (by simpa using h)
    simp only [numbered, List.getElem?_cons_succ, this]
    congr 2
    · push_cast; omega
    · congr 1; push_cast; omega
theorem afirst_skip {p : Dr → Bool} : ∀ (W : List Dr) (r : List Dr) (j : Nat), (∀ x ∈ W, p x = false) → afirst p (W ++ r) j = afirst p r (j + W.length)
  | [], r, j, _ => rfl
  | x :: W, r, j, h => by
    have := afirst_skip W r (j + 1) (fun y hy => h y (by simp [hy]))
    simp only [List.cons_append, afirst, h x (by simp), this, List.length_cons]
    rw [show j + 1 + W.length = j + (W.length + 1) by omega]
    simp
theorem afirst_none {p : Dr → Bool} : ∀ (W : List Dr) (j : Nat), (∀ x ∈ W, p x = false) → afirst p W j = none
  | [], _, _ => rfl
  | x :: W, j, h => by
    have := afirst_none W (j + 1) (fun y hy => h y (by simp [hy]))
    simp [afirst, h x (by simp), this]
theorem erase_mid (W r : List Dr) (d : Dr) : (W ++ d :: r).eraseIdx W.length = W ++ r := by
  rw [List.eraseIdx_append_of_length_le (Nat.le_refl _)]
  simp
/-- TokenOwn's drafts: own ones (site 2), no number yet -/
def OwnD (d : Dr) : Prop := d.s = 2 ∧ d.q = 0 ∧ (d.dep = [] ∨ d.dep = [1])
def waitsD (d : Dr) : Bool := decide (d.dep = [1])
theorem own_may (s : Int) (hs : 0 ≤ s ∧ s < 1048576) (d : Dr) (h : OwnD d) : dmay 2 [0, 0, s] d = !waitsD d := by
  obtain ⟨h1, h2, h3⟩ := h
  have hg : vget [0, 0, s] 2 = s := by simp [vget]
  unfold dmay waitsD
  rw [if_pos h1, h1, h2, hg]
  rcases h3 with h | h
  · rw [h]
    simp [vcov, List.range_succ, vget, hs.1, hs.2]
  · rw [h]
    simp [vcov, List.range_succ, vget]
theorem own_may1 (s : Int) (hs : 0 ≤ s ∧ s < 1048576) (d : Dr) (h : OwnD d) : dmay 2 [1, 0, s] d = true := by
  obtain ⟨h1, h2, h3⟩ := h
  have hg : vget [1, 0, s] 2 = s := by simp [vget]
  unfold dmay
  rw [if_pos h1, h1, h2, hg]
  rcases h3 with h | h
  · rw [h]
    simp [vcov, List.range_succ, vget, hs.1, hs.2]
  · rw [h]
    simp [vcov, List.range_succ, vget, hs.1, hs.2]
theorem own_step (x s : Int) (next : Int) (left : List Dr) (out : List (Int × Dr)) (i : Nat) (d : Dr) (h : OwnD d) :
    astep 2 ⟨next, [x, 0, s], left, out⟩ i d = ⟨next + 1, [x, 0, s + 1], left.eraseIdx i, out ++ [(next, { d with q := s + 1 })]⟩ := by
  have hf : dfix 2 [x, 0, s] d = { d with q := s + 1 } := by
    unfold dfix
    rw [if_pos h.1]
    simp [vget]
  unfold astep
  rw [hf, h.1]
  simp [vwith]
theorem own_ago : ∀ (r W : List Dr) (n : Nat) (next s : Int) (out : List (Int × Dr)), (∀ d ∈ W, OwnD d ∧ waitsD d = true) → (∀ d ∈ r, OwnD d) → r.length ≤ n → 0 ≤ s → s + r.length < 1048576 →
    ago 2 n ⟨next, [0, 0, s], W ++ r, out⟩ = ⟨next + (r.filter (fun d => !waitsD d)).length, [0, 0, s + (r.filter (fun d => !waitsD d)).length], W ++ r.filter waitsD, out ++ numbered next (s + 1) (r.filter (fun d => !waitsD d))⟩
  | [], W, n, next, s, out, hW, hr, hn, h0, hs => by
    have := ago_none (own := 2) (a := ⟨next, [0, 0, s], W ++ [], out⟩) (by
      rw [List.append_nil]
      exact afirst_none W 0 (fun x hx => by rw [own_may s ⟨h0, by simp at hs; omega⟩ x (hW x hx).1, (hW x hx).2]; rfl)) n
    rw [this]
    simp [numbered]
  | d :: r, W, n, next, s, out, hW, hr, hn, h0, hs => by
    have hd := hr d (by simp)
    have hr' : ∀ x ∈ r, OwnD x := fun x hx => hr x (by simp [hx])
    have hsk := afirst_skip (p := dmay 2 [0, 0, s]) W (d :: r) 0 (fun x hx => by rw [own_may s ⟨h0, by simp at hs; omega⟩ x (hW x hx).1, (hW x hx).2]; rfl)
    simp only [List.length_cons] at hn hs
    cases hw : waitsD d
    · obtain ⟨n, rfl⟩ : ∃ m, n = m + 1 := ⟨n - 1, by omega⟩
      have h1 := ago_some (own := 2) (a := ⟨next, [0, 0, s], W ++ d :: r, out⟩) (i := W.length) (d := d) (by
        rw [hsk]
        simp only [afirst, own_may s ⟨h0, by omega⟩ d hd, hw]
        simp) n
      rw [h1, own_step 0 s next _ _ _ d hd, erase_mid, own_ago r W n (next + 1) (s + 1) _ hW hr' (by omega) (by omega) (by push_cast at hs; omega)]
      simp only [List.filter_cons, hw, Bool.not_false, if_true, List.length_cons, numbered, List.append_assoc, List.cons_append, List.nil_append]
      congr 1
      · push_cast; omega
      · congr 2; push_cast; congr 1; omega
    · have := own_ago r (W ++ [d]) n next s out (fun x hx => by
        rcases List.mem_append.1 hx with hx | hx
        · exact hW x hx
        · simp at hx; subst hx; exact ⟨hd, hw⟩) hr' (by omega) h0 (by push_cast at hs; omega)
      rw [List.append_assoc, List.singleton_append] at this
      rw [this]
      simp [List.filter_cons, hw]
theorem own_ago1 : ∀ (r : List Dr) (n : Nat) (next s : Int) (out : List (Int × Dr)), (∀ d ∈ r, OwnD d) → r.length ≤ n → 0 ≤ s → s + r.length < 1048576 →
    ago 2 n ⟨next, [1, 0, s], r, out⟩ = ⟨next + r.length, [1, 0, s + r.length], [], out ++ numbered next (s + 1) r⟩
  | [], n, next, s, out, hr, hn, h0, hs => by
    rw [ago_none (by rfl)]
    simp [numbered]
  | d :: r, n, next, s, out, hr, hn, h0, hs => by
    have hd := hr d (by simp)
    simp only [List.length_cons] at hn hs
    obtain ⟨n, rfl⟩ : ∃ m, n = m + 1 := ⟨n - 1, by omega⟩
    have h1 := ago_some (own := 2) (a := ⟨next, [1, 0, s], d :: r, out⟩) (i := 0) (d := d) (by
      simp only [afirst, own_may1 s ⟨h0, by push_cast at hs; omega⟩ d hd, if_true]) n
    rw [h1, own_step 1 s next _ _ _ d hd, List.eraseIdx_cons_zero, own_ago1 r n (next + 1) (s + 1) _ (fun x hx => hr x (by simp [hx])) (by omega) (by omega) (by push_cast at hs; omega)]
    simp only [List.length_cons, numbered, List.append_assoc, List.cons_append, List.nil_append]
    congr 1
    · push_cast; omega
    · congr 2; push_cast; congr 1; omega
theorem own_late (seen : List Int) : ∀ (l acc : List Dr), (∀ d ∈ l, OwnD d) → alate 2 seen l acc = acc ++ l
  | [], acc, _ => by simp [alate]
  | d :: r, acc, h => by
    have hd := h d (by simp)
    have : dgone 2 seen d acc = false := by unfold dgone; rw [if_pos hd.1, hd.2.1]; rfl
    rw [alate, this, if_neg (by decide), own_late seen r _ (fun x hx => h x (by simp [hx]))]
    simp
/-- the second time: what was waited for, and all that waited -/
theorem own_ago2 (W : List Dr) (x : Dr) (next s : Int) (n : Nat) (hx : x.s = 0 ∧ x.q = 1 ∧ x.dep = []) (hW : ∀ d ∈ W, OwnD d ∧ waitsD d = true) (hn : W.length + 1 ≤ n) (h0 : 0 ≤ s) (hs : s + W.length < 1048576) :
    ago 2 n ⟨next, [0, 0, s], W ++ [x], []⟩ = ⟨next + 1 + W.length, [1, 0, s + W.length], [], (next, x) :: numbered (next + 1) (s + 1) W⟩ := by
  obtain ⟨n, rfl⟩ : ∃ m, n = m + 1 := ⟨n - 1, by omega⟩
  have hsk := afirst_skip (p := dmay 2 [0, 0, s]) W [x] 0 (fun y hy => by rw [own_may s ⟨h0, by omega⟩ y (hW y hy).1, (hW y hy).2]; rfl)
  have hm : dmay 2 [0, 0, s] x = true := by
    unfold dmay
    rw [if_neg (by rw [hx.1]; decide), hx.1, hx.2.1, hx.2.2]
    simp [vcov, List.range_succ, vget, h0]
  have h1 := ago_some (own := 2) (a := ⟨next, [0, 0, s], W ++ [x], []⟩) (i := W.length) (d := x) (by
    rw [hsk]
    simp [afirst, hm]) n
  have hst : astep 2 ⟨next, [0, 0, s], W ++ [x], []⟩ W.length x = ⟨next + 1, [1, 0, s], W, [(next, x)]⟩ := by
    have hf : dfix 2 [0, 0, s] x = x := by unfold dfix; rw [if_neg (by rw [hx.1]; decide)]
    have he := erase_mid W [] x
    unfold astep
    rw [hf, hx.1, hx.2.1]
    simp only [List.append_nil] at he
    simp [vwith, he]
  rw [h1, hst, own_ago1 W n (next + 1) s _ (fun d hd => (hW d hd).1) (by omega) h0 hs]
  simp
theorem filter_at {p : Dr → Bool} {l : List Dr} {i : Nat} {d : Dr} (h : l[i]? = some d) (hp : p d = true) : (l.filter p)[((l.take i).filter p).length]? = some d := by
  obtain ⟨hi, hx⟩ := List.getElem?_eq_some_iff.1 h
  have e : l = l.take i ++ d :: l.drop (i + 1) := by rw [← hx, ← List.drop_eq_getElem_cons hi, List.take_append_drop]
  have h2 : l.filter p = (l.take i).filter p ++ d :: (l.drop (i + 1)).filter p := by
    conv => lhs; rw [e]
    rw [List.filter_append, List.filter_cons, if_pos hp]
  rw [h2]
  simp
end Go.XL
