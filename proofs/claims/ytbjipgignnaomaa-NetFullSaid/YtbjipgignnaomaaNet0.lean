/- A net in memory: its ways, what is cut. -/
import Derived.Test.YtbjipgignnaomaaMap
namespace Go.XL
open Go.RowKit Go.Shelf
open Go.Maps (Keyed)
set_option linter.unusedVariables false
set_option linter.unusedSimpArgs false

def isPair (s a b : Int) : Bool := decide (0 ≤ a ∧ a < s ∧ 0 ≤ b ∧ b < s ∧ a ≠ b)
abbrev wkey (a b : Int) : Value := .agg #[.int .i64 a, .int .i64 b]
/-- a function of two numbers as one of keys -/
def onKey (z : Value) (V : Int → Int → Value) : Value → Value
  | .agg cs => match cs.toList with | [.int .i64 a, .int .i64 b] => V a b | _ => z
  | _ => z
theorem onKey_key (z : Value) (V : Int → Int → Value) (a b : Int) : onKey z V (wkey a b) = V a b := rfl
theorem onKey_const (z : Value) : onKey z (fun _ _ => z) = fun _ => z := by
  funext x
  cases x <;> try rfl
  rename_i cs
  show (match cs.toList with | [.int .i64 a', .int .i64 b'] => z | _ => z) = z
  split <;> rfl
/-- one place turned -/
def upd2 {α : Type} (V : Int → Int → α) (a b : Int) (x : α) : Int → Int → α := fun c d => if c = a ∧ d = b then x else V c d
theorem upd2_same {α : Type} (V : Int → Int → α) (a b : Int) (x : α) : upd2 V a b x a b = x := by simp [upd2]
theorem upd2_other {α : Type} (V : Int → Int → α) (a b : Int) (x : α) {c d : Int} (h : ¬ (c = a ∧ d = b)) : upd2 V a b x c d = V c d := by simp [upd2, h]
theorem onKey_upd (z : Value) (V : Int → Int → Value) (a b : Int) (v : Value) : onKey z (upd2 V a b v) (wkey a b) = v ∧ ∀ x, x ≠ wkey a b → onKey z (upd2 V a b v) x = onKey z V x := by
  refine ⟨by rw [onKey_key, upd2_same], fun x hx => ?_⟩
  cases x <;> try rfl
  rename_i cs
  show (match cs.toList with | [.int .i64 a', .int .i64 b'] => upd2 V a b v a' b' | _ => z) = (match cs.toList with | [.int .i64 a', .int .i64 b'] => V a' b' | _ => z)
  split
  · rename_i a' b' he
    refine upd2_other _ _ _ _ (fun ⟨h1, h2⟩ => hx ?_)
    subst h1; subst h2
    rw [wkey, ← he]
  · rfl

/-- what a net's ways are: each a slice, no two in one row -/
structure NetV (w : World) (E : TypeId) (q : IntKind) (p b1 b2 : Nat) (L : Int → Int → List Int) (V : Int → Int → Value) : Prop where
  row : ∀ a b, Sl w E 1 (V a b) (L a b).length ((L a b).map (Value.int q))
  apart : ∀ a b a' b' g, (V a b).ownBlock = some g → (V a' b').ownBlock = some g → a = a' ∧ b = b'
  far : ∀ a b g, (V a b).ownBlock = some g → g ≠ p ∧ g ≠ b1 ∧ g ≠ b2

/-- the net at block p -/
structure NetAt (P : Program) (k E Tn : TypeId) (q : IntKind) (w : World) (p b1 b2 : Nat) (s : Int) (c : Nat) (L : Int → Int → List Int) (C : Int → Int → Bool) (V : Int → Int → Value) : Prop where
  cell : w.heap[p]? = some (.cells #[.int .i64 s, .map (some b1), .map (some b2)] Tn (0, 0))
  ways : MapAt w P k (.slice none 0 0) b1 c (onKey (.slice none 0 0) V)
  cut : MapAt w P k (.bool false) b2 c (onKey (.bool false) fun a b => .bool (C a b))
  v : NetV w E q p b1 b2 L V
  ne : p ≠ b1 ∧ p ≠ b2 ∧ b1 ≠ b2
  sites : 1 ≤ s ∧ s ≤ 8

/-- the blocks that are the net's -/
def NetOwn (p b1 b2 : Nat) (V : Int → Int → Value) : Nat → Prop := fun g => g = p ∨ g = b1 ∨ g = b2 ∨ ∃ a b, (V a b).ownBlock = some g

/-- what Send tells -/
def sendR (s : Int) (L : Int → Int → List Int) (C : Int → Int → Bool) (a b : Int) : Int := if isPair s a b = false then 1 else if C a b = true then 11 else if 64 ≤ (L a b).length then 6 else 0
/-- what the ways are then -/
def sendL (s : Int) (L : Int → Int → List Int) (C : Int → Int → Bool) (a b x : Int) : Int → Int → List Int := if sendR s L C a b = 0 then upd2 L a b (L a b ++ [x]) else L

/-- how many messages: on the ways from x to the first j, from the first i -/
def lenRow (L : Int → Int → List Int) (x : Nat) : Nat → Nat
  | 0 => 0
  | j + 1 => lenRow L x j + (L x j).length
def lenRows (L : Int → Int → List Int) (n : Nat) : Nat → Nat
  | 0 => 0
  | i + 1 => lenRows L n i + lenRow L i n
theorem lenRow_le (L : Int → Int → List Int) (h : ∀ a b, (L a b).length ≤ 1000) (x : Nat) : ∀ j, lenRow L x j ≤ 1000 * j
  | 0 => by simp [lenRow]
  | j + 1 => by have := lenRow_le L h x j; have := h x j; simp only [lenRow]; omega
theorem lenRows_le (L : Int → Int → List Int) (h : ∀ a b, (L a b).length ≤ 1000) (n : Nat) : ∀ i, lenRows L n i ≤ 1000 * n * i
  | 0 => by simp [lenRows]
  | i + 1 => by have := lenRows_le L h n i; have := lenRow_le L h i n; simp only [lenRows]; rw [Nat.mul_add]; omega

variable {P : Program} {k E Tn : TypeId} {q : IntKind} {w w' : World} {p b1 b2 : Nat} {s : Int} {c : Nat} {L : Int → Int → List Int} {C : Int → Int → Bool} {V : Int → Int → Value}
theorem NetAt.lt (h : NetAt P k E Tn q w p b1 b2 s c L C V) : ∀ g, NetOwn p b1 b2 V g → g < w.heap.size := by
  rintro g (rfl | rfl | rfl | ⟨a, b, hg⟩)
  · exact (Array.getElem?_eq_some_iff.1 h.cell).1
  · exact h.ways.lt
  · exact h.cut.lt
  · exact (h.v.row a b).lt g hg
theorem NetAt.fr {F : Nat → Prop} (h : NetAt P k E Tn q w p b1 b2 s c L C V) (hf : Fr F w w') (hF : ∀ g, NetOwn p b1 b2 V g → ¬ F g) : NetAt P k E Tn q w' p b1 b2 s c L C V :=
  ⟨hf.heap h.cell (hF _ (.inl rfl)), h.ways.fr hf (hF _ (.inr (.inl rfl))), h.cut.fr hf (hF _ (.inr (.inr (.inl rfl)))),
   ⟨fun a b => (h.v.row a b).fr hf (fun g hg => hF g (.inr (.inr (.inr ⟨a, b, hg⟩)))), h.v.apart, h.v.far⟩, h.ne, h.sites⟩
theorem NetAt.fr0 (h : NetAt P k E Tn q w p b1 b2 s c L C V) (hf : Fr no w w') : NetAt P k E Tn q w' p b1 b2 s c L C V := h.fr hf (fun _ _ f => f)
theorem NetAt.bk {B : Nat} (h : NetAt P k E Tn q w p b1 b2 s c L C V) (hf : Bk B w w') : NetAt P k E Tn q w' p b1 b2 s c L C V :=
  ⟨hf.heap h.cell rfl, h.ways.bk hf, h.cut.bk hf, ⟨fun a b => (h.v.row a b).bk hf, h.v.apart, h.v.far⟩, h.ne, h.sites⟩
theorem NetAt.mono (h : NetAt P k E Tn q w p b1 b2 s c L C V) {c' : Nat} (hc : c ≤ c') : NetAt P k E Tn q w p b1 b2 s c' L C V :=
  ⟨h.cell, h.ways.mono hc, h.cut.mono hc, h.v, h.ne, h.sites⟩
theorem NetAt.c0 (h : NetAt P k E Tn q w p b1 b2 s c L C V) : w.cell? ⟨p, 0, none⟩ = some (.int .i64 s) := cell_of_block h.cell rfl
theorem NetAt.c1 (h : NetAt P k E Tn q w p b1 b2 s c L C V) : w.cell? ⟨p, 1, none⟩ = some (.map (some b1)) := cell_of_block h.cell rfl
theorem NetAt.c2 (h : NetAt P k E Tn q w p b1 b2 s c L C V) : w.cell? ⟨p, 2, none⟩ = some (.map (some b2)) := cell_of_block h.cell rfl

/-- a way's slice is turned: it is laid in the map -/
theorem NetAt.lay {Tm e : TypeId} (h : NetAt P k E Tn q w p b1 b2 s c L C V) (K : Keyed P k) (ht : P.underlying Tm = some (.map k e)) {a b : Int} {kl : Lit} (hkey : keyOf P k (wkey a b) = some kl) (hc : c < 1000000)
    {w1 : World} (hf : Fr (fun g => (V a b).ownBlock = some g) w w1) {v : Value} {l : List Int} (hv : Sl w1 E 1 v l.length (l.map (Value.int q))) (ho : v.ownBlock = (V a b).ownBlock ∨ ∀ g, v.ownBlock = some g → w.heap.size ≤ g) :
    ∃ w2, (Instr.mapUpdate Tm (.map (some b1)) (wkey a b) v).run P w1 = .ok () w2 ∧ NetAt P k E Tn q w2 p b1 b2 s (c + 1) (upd2 L a b l) C (upd2 V a b v) ∧ Fr (fun g => g = b1) w1 w2 := by
  have hfar := h.v.far a b
  have hway := h.ways.fr hf (fun e => (hfar _ e).2.1 rfl)
  obtain ⟨w2, hrun, hm, hf2⟩ := hway.put K ht (by unfold maxLen; omega) hkey v
  have hu := onKey_upd (.slice none 0 0) V a b v
  have hb1 : ∀ g, v.ownBlock = some g → g ≠ p ∧ g ≠ b1 ∧ g ≠ b2 := fun g hg => by
    rcases ho with e | e
    · exact hfar g (by rw [← e]; exact hg)
    · have h1 := e g hg
      have h2 := h.lt p (.inl rfl)
      have h3 := h.lt b1 (.inr (.inl rfl))
      have h4 := h.lt b2 (.inr (.inr (.inl rfl)))
      exact ⟨by omega, by omega, by omega⟩
  refine ⟨w2, hrun, ⟨hf2.heap (hf.heap h.cell (fun e => (hfar _ e).1 rfl)) h.ne.1, hm _ hu.1 hu.2, ((h.cut.fr hf (fun e => (hfar _ e).2.2 rfl)).fr hf2 (fun e => h.ne.2.2 e.symm)).mono (by omega), ⟨fun a' b' => ?_, fun a1 c1 a2 c2 g h1 h2 => ?_, fun a' b' g hg => ?_⟩, h.ne, h.sites⟩, hf2⟩
  · by_cases e : a' = a ∧ b' = b
    · obtain ⟨rfl, rfl⟩ := e
      rw [upd2_same, upd2_same]
      exact hv.fr hf2 (fun g hg e => (hb1 g hg).2.1 e)
    · rw [upd2_other _ _ _ _ e, upd2_other _ _ _ _ e]
      exact ((h.v.row a' b').fr hf (fun g hg e' => e (h.v.apart _ _ _ _ g hg e'))).fr hf2 (fun g hg e' => (h.v.far a' b' g hg).2.1 e')
  · by_cases e1 : a1 = a ∧ c1 = b
    · by_cases e2 : a2 = a ∧ c2 = b
      · exact ⟨e1.1.trans e2.1.symm, e1.2.trans e2.2.symm⟩
      · obtain ⟨rfl, rfl⟩ := e1
        rw [upd2_same] at h1
        rw [upd2_other _ _ _ _ e2] at h2
        rcases ho with e | e
        · exact h.v.apart _ _ _ _ g (e ▸ h1) h2
        · have := e g h1; have := (h.v.row a2 c2).lt g h2; omega
    · rw [upd2_other _ _ _ _ e1] at h1
      by_cases e2 : a2 = a ∧ c2 = b
      · obtain ⟨rfl, rfl⟩ := e2
        rw [upd2_same] at h2
        rcases ho with e | e
        · exact h.v.apart _ _ _ _ g h1 (e ▸ h2)
        · have := e g h2; have := (h.v.row a1 c1).lt g h1; omega
      · rw [upd2_other _ _ _ _ e2] at h2
        exact h.v.apart _ _ _ _ g h1 h2
  · by_cases e : a' = a ∧ b' = b
    · obtain ⟨rfl, rfl⟩ := e
      rw [upd2_same] at hg
      exact hb1 g hg
    · rw [upd2_other _ _ _ _ e] at hg
      exact h.v.far a' b' g hg

/-- what is the net's then, was, or is new -/
theorem own_upd {a b : Int} {v : Value} {n : Nat} (ho : v.ownBlock = (V a b).ownBlock ∨ ∀ g, v.ownBlock = some g → n ≤ g) : ∀ g, NetOwn p b1 b2 (upd2 V a b v) g → NetOwn p b1 b2 V g ∨ n ≤ g := by
  rintro g (rfl | rfl | rfl | ⟨a', b', hg⟩)
  · exact .inl (.inl rfl)
  · exact .inl (.inr (.inl rfl))
  · exact .inl (.inr (.inr (.inl rfl)))
  · by_cases e : a' = a ∧ b' = b
    · obtain ⟨rfl, rfl⟩ := e
      rw [upd2_same] at hg
      rcases ho with e | e
      · exact .inl (.inr (.inr (.inr ⟨_, _, e ▸ hg⟩)))
      · exact .inr (e g hg)
    · rw [upd2_other _ _ _ _ e] at hg
      exact .inl (.inr (.inr (.inr ⟨_, _, hg⟩)))

/-- something is cut, or healed -/
theorem NetAt.snip {Tc e : TypeId} (h : NetAt P k E Tn q w p b1 b2 s c L C V) (K : Keyed P k) (ht : P.underlying Tc = some (.map k e)) {a b : Int} {kl : Lit} (hkey : keyOf P k (wkey a b) = some kl) (hc : c < 1000000) (on : Bool) :
    ∃ w2, (Instr.mapUpdate Tc (.map (some b2)) (wkey a b) (.bool on)).run P w = .ok () w2 ∧ NetAt P k E Tn q w2 p b1 b2 s (c + 1) L (upd2 C a b on) V ∧ Fr (fun g => g = b2) w w2 := by
  obtain ⟨w2, hrun, hm, hf2⟩ := h.cut.put K ht (by unfold maxLen; omega) hkey (.bool on)
  have hu := onKey_upd (.bool false) (fun a b => .bool (C a b)) a b (.bool on)
  have e0 : (upd2 (fun a b => Value.bool (C a b)) a b (.bool on)) = fun c d => Value.bool (upd2 C a b on c d) := by
    funext c d; unfold upd2; split <;> rfl
  rw [e0] at hu
  exact ⟨w2, hrun, ⟨hf2.heap h.cell h.ne.2.1, (h.ways.fr hf2 (fun e => h.ne.2.2 e)).mono (by omega), hm _ hu.1 hu.2, ⟨fun a' b' => (h.v.row a' b').fr hf2 (fun g hg e => (h.v.far a' b' g hg).2.2 e), h.v.apart, h.v.far⟩, h.ne, h.sites⟩, hf2⟩
end Go.XL
