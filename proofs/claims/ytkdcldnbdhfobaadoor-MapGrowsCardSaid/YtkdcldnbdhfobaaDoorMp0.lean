/- Package stripe: maps in memory; Check, Find. -/
import Derived.Test.YtkdcldnbdhfobaaDoorVecN
import Derived.Test.YtkdcldnbdhfobaaDoorHeld2
namespace Go.XL
open Go.RowKit Go.Shelf
set_option linter.unusedVariables false
set_option linter.unusedSimpArgs false
abbrev Mp := List (Int × Int)
def mpCells (m : Mp) : List Value := m.flatMap fun x => [.int .i64 x.1, .int .i64 x.2]
theorem mpCells_len (m : Mp) : (mpCells m).length = m.length * 2 := by
  induction m with
  | nil => rfl
  | cons x r ih => simp only [mpCells, List.flatMap_cons, List.length_append, List.length_cons, List.length_nil] at *; omega
theorem mpCells_get (m : Mp) (k : Nat) (x : Int × Int) (h : m[k]? = some x) : (mpCells m)[k * 2]? = some (.int .i64 x.1) ∧ (mpCells m)[k * 2 + 1]? = some (.int .i64 x.2) := by
  induction m generalizing k with
  | nil => simp at h
  | cons y m ih =>
    cases k with
    | zero => simp at h; subst h; simp [mpCells]
    | succ k =>
      have := ih k (by simpa using h)
      simpa [mpCells, Nat.add_mul] using this
theorem mpCells_app (a b : Mp) : mpCells (a ++ b) = mpCells a ++ mpCells b := by simp [mpCells]
abbrev MpAt (w : World) (v : Value) (m : Mp) : Prop := Rd w 2 v m.length (mpCells m)
theorem mp_cells {w : World} {v : Value} {m : Mp} (h : MpAt w v m) {k : Nat} {x : Int × Int} (hx : m[k]? = some x) : ∃ g off cap, v = .slice (some ⟨g, off, none⟩) m.length cap ∧
    w.cell? ⟨g, off + k * 2, none⟩ = some (.int .i64 x.1) ∧ w.cell? ⟨g, off + k * 2 + 1, none⟩ = some (.int .i64 x.2) := by
  have hlt := (List.getElem?_eq_some_iff.1 hx).1
  obtain ⟨g, off, cap, rfl, _, _, hc⟩ := Rd.form h (by omega)
  obtain ⟨h0, h1⟩ := mpCells_get m k x hx
  refine ⟨g, off, cap, rfl, hc _ _ h0, ?_⟩
  have := hc _ _ h1; rwa [← Nat.add_assoc] at this
/-- Check: what is wrong with a map -/
def mgo (first : Bool) (last : Int) : Mp → Int
  | [] => 0
  | x :: r => if (first = true ∧ x.1 ≠ 0) ∨ x.1 < last ∨ x.2 < 1 ∨ 8 < x.2 then 1 else mgo false x.1 r
def mcheck (m : Mp) : Int := if m = [] then 1 else mgo true 0 m
theorem mgo_drop {m : Mp} {k : Nat} {x : Int × Int} (h : m[k]? = some x) (b : Bool) (last : Int) : mgo b last (m.drop k) = if (b = true ∧ x.1 ≠ 0) ∨ x.1 < last ∨ x.2 < 1 ∨ 8 < x.2 then 1 else mgo false x.1 (m.drop (k + 1)) := by
  obtain ⟨hk, hx⟩ := List.getElem?_eq_some_iff.1 h
  rw [List.drop_eq_getElem_cons hk, hx]; rfl
/-- where a position is: the epoch's place from behind -/
def mback (m : Mp) (pos : Int) : Nat → Nat
  | 0 => 0
  | k + 1 => if pos < (m[k + 1]?.getD (0, 0)).1 then mback m pos k else k + 1
def mfind (m : Mp) (pos : Int) : Int × Int × Int :=
  if pos < 0 ∨ mcheck m ≠ 0 then (0, 0, 1) else
    let i := mback m pos (m.length - 1)
    ((i : Int) + 1, (pos - (m[i]?.getD (0, 0)).1) % (m[i]?.getD (0, 0)).2, 0)
theorem mcheck_two (m : Mp) : mcheck m = 0 ∨ mcheck m = 1 := by
  have h : ∀ (m : Mp) b l, mgo b l m = 0 ∨ mgo b l m = 1 := by
    intro m
    induction m with
    | nil => intro b l; exact .inl rfl
    | cons x r ih => intro b l; rw [mgo]; split; exact .inr rfl; exact ih _ _
  unfold mcheck
  split
  · exact .inr rfl
  · exact h _ _ _
end Go.XL
namespace Go.Proofs.YtkdcldnbdhfobaaDoor
open Go.RowKit Go.Shelf Go.XL
set_option linter.unusedVariables false
set_option linter.unusedSimpArgs false
attribute [local go_sem] Oper.semAt_some
set_option maxRecDepth 100000 in
set_option maxHeartbeats 2000000 in
theorem m_check (v : Value) (m : Mp) (w : World) (h : MpAt w v m) :
    Calls Tryd.prog 14 #[v] w fun e w' => e = .returned (.int .i64 (mcheck m)) ∧ Fr no w w' := by
  obtain ⟨ao, cap, rfl, hcap, hmx⟩ := h.cap
  have H := Lib.hid h
  clear h
  by_cases hz : m = []
  · subst hz
    have e0 : mcheck [] = 1 := rfl
    rw [e0]
    simp only [List.length_nil] at hcap ⊢
    go_enter Tryd.func14, Tryd.ntmps14
    go_wp2
    go_ret
    exact ⟨rfl, Fr.refl _ _⟩
  · have e0 : mcheck m = mgo true 0 m := by unfold mcheck; rw [if_neg hz]
    have hpos : m.length ≠ 0 := fun e => hz (List.eq_nil_of_length_eq_zero e)
    rw [e0]
    obtain ⟨r, hr⟩ : ∃ r, mgo true 0 m = r := ⟨_, rfl⟩
    rw [hr]
    have Hr := Lib.hid hr
    clear hr e0 hz
    generalize hn : m.length = n at *
    have Hn := Lib.hid hn
    clear hn
    have hpos2 : ¬ (n : Int) = 0 := by omega
    go_enter Tryd.func14, Tryd.ntmps14
    go_wp2_with fail
    go_loopw [3, 11] (fun lv iv wr => ∃ (k : Nat) (last : Int), k ≤ n ∧ iv = .int .i64 k ∧ lv = .int .i64 last ∧ Hid (mgo (decide (k = 0)) last (m.drop k) = r) ∧ Hid (Fr no w wr)) (fun _ iv _ => n - (intOf iv).toNat)
    case atStart => exact ⟨0, 0, Nat.zero_le _, rfl, rfl, Lib.hid Hr.out, Lib.hid (Fr.refl _ _)⟩
    case round =>
      obtain ⟨k, last, hk, rfl, rfl, hR, hF⟩ := hrel
      generalize wr = W at *
      by_cases hlt : k < n
      · obtain ⟨x, hxk⟩ : ∃ x, m[k]? = some x := ⟨m[k]'(by rw [Hn.out]; exact hlt), by simp⟩
        obtain ⟨g, off, c', he, h0, h1⟩ := mp_cells (w := W) (v := .slice ao n cap) (m := m) (by have := H.out.fr hF.out (fun _ _ _ f => f); rwa [← Hn.out] at this ⊢) hxk
        rw [Hn.out] at he
        cases he
        have hd := mgo_drop hxk (decide (k = 0)) last
        rw [hR.out] at hd
        clear hxk hR
        obtain ⟨f, c⟩ := x
        dsimp only at h0 h1 hd
        by_cases hbad : (decide (k = 0) = true ∧ f ≠ 0) ∨ f < last ∨ c < 1 ∨ 8 < c
        · rw [if_pos hbad] at hd
          have Hd := Lib.hid hd
          clear hd
          have hF2 := Lib.hid (hF.out.alloc (.cells #[.int .i64 f, .int .i64 c] 48))
          have hway : (k = 0 ∧ ¬ f = 0) ∨ (k = 0 ∧ f = 0 ∧ f < last) ∨ (k = 0 ∧ f = 0 ∧ ¬ f < last ∧ c < 1) ∨ (k = 0 ∧ f = 0 ∧ ¬ f < last ∧ ¬ c < 1 ∧ 8 < c) ∨
              (¬ (k : Int) = 0 ∧ f < last) ∨ (¬ (k : Int) = 0 ∧ ¬ f < last ∧ c < 1) ∨ (¬ (k : Int) = 0 ∧ ¬ f < last ∧ ¬ c < 1 ∧ 8 < c) := by
            rw [decide_eq_true_eq] at hbad
            omega
          clear hbad
          rcases hway with ⟨rfl, q1⟩ | ⟨rfl, rfl, q2⟩ | ⟨rfl, rfl, q2, q3⟩ | ⟨rfl, rfl, q2, q3, q4⟩ | ⟨q0, q2⟩ | ⟨q0, q2, q3⟩ | ⟨q0, q2, q3, q4⟩
          all_goals
            try simp only [Nat.zero_mul, Nat.add_zero] at h0 h1
            go_wp2
            go_ret
            exact ⟨by rw [Hd.out]; rfl, hF2.out⟩
        · rw [if_neg hbad] at hd
          have Hd : Hid (mgo (decide (k + 1 = 0)) f (m.drop (k + 1)) = r) := Lib.hid (by rw [decide_eq_false (by omega)]; exact hd.symm)
          clear hd
          have hF2 := Lib.hid (hF.out.alloc (.cells #[.int .i64 f, .int .i64 c] 48))
          have hway : (k = 0 ∧ f = 0 ∧ ¬ f < last ∧ ¬ c < 1 ∧ ¬ 8 < c) ∨ (¬ (k : Int) = 0 ∧ ¬ f < last ∧ ¬ c < 1 ∧ ¬ 8 < c) := by
            rw [decide_eq_true_eq] at hbad
            omega
          clear hbad
          rcases hway with ⟨rfl, rfl, q2, q3, q4⟩ | ⟨q0, q2, q3, q4⟩
          · simp only [Nat.zero_mul, Nat.add_zero] at h0 h1
            go_wp2
            go_roundw
            case rel => exact ⟨1, 0, by omega, by go_num, rfl, Hd, hF2⟩
            case measure => simp [intOf]; omega
          · clear hF2
            go_wp2
            go_roundw
            case rel => exact ⟨_, _, _, _, _, ⟨k + 1, by omega, by go_num, f, rfl, Hd, Lib.hid (hF.out.alloc _)⟩, rfl, rfl, rfl, rfl, rfl⟩
            case measure => simp [intOf]; omega
      · have hkn : k = n := by omega
        have e1 : r = 0 := by rw [← hR.out, List.drop_eq_nil_of_le (by rw [Hn.out]; omega)]; rfl
        have E1 := Lib.hid e1
        clear e1
        go_wp2
        go_ret
        exact ⟨by rw [E1.out]; rfl, hF.out⟩
end Go.Proofs.YtkdcldnbdhfobaaDoor
