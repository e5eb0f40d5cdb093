/- The reference's maps: FindPos. -/
import Derived.Test.YtkdcldnbdhfobaaDoorMpR
namespace Go.Proofs.YtkdcldnbdhfobaaDoor
open Go.RowKit Go.Shelf Go.XL
set_option linter.unusedVariables false
set_option linter.unusedSimpArgs false
attribute [local go_sem] Oper.semAt_some
/-- the last place at which no position ahead stands -/
def mlast (m : Mp) (pos : Int) : Nat → Nat
  | 0 => 0
  | i + 1 => if (m[i]?.getD (0, 0)).1 ≤ pos then i else mlast m pos i
theorem mlast_succ {m : Mp} {pos : Int} {i : Nat} {x : Int × Int} (h : m[i]? = some x) : mlast m pos (i + 1) = if x.1 ≤ pos then i else mlast m pos i := by rw [mlast, h]; rfl
theorem mlast_back (m : Mp) (pos : Int) : ∀ n : Nat, mlast m pos (n + 1) = mback m pos n
  | 0 => by rw [mlast, mback]; split <;> rfl
  | n + 1 => by
    rw [mlast, mback, mlast_back m pos n]
    by_cases h : (m[n + 1]?.getD (0, 0)).1 ≤ pos
    · rw [if_pos h, if_neg (by omega)]
    · rw [if_neg h, if_pos (by omega)]
set_option maxRecDepth 100000 in
set_option maxHeartbeats 4000000 in
theorem ref_findpos (v : Value) (m : Mp) (pos : Int) (w : World) (h : MpAt w v m) (hp : pos ≤ 9223372036854775807) (hm : m.length ≤ 1000000) :
    Calls Tryd.prog 11 #[v, .int .i64 pos] w fun e w' => e = .returned (.tuple #[.int .i64 (mfind m pos).1, .int .i64 (mfind m pos).2.1, .int .i64 (mfind m pos).2.2]) ∧ Fr no w w' := by
  obtain ⟨ao, cap, rfl, hcap, hmx⟩ := h.cap
  have H := Lib.hid h
  have hc := ref_checkmap _ m w h
  clear h
  by_cases hp0 : pos < 0
  · have e0 : mfind m pos = (0, 0, 1) := by unfold mfind; rw [if_pos (.inl hp0)]
    rw [e0]
    clear hc
    generalize m.length = n at *
    go_enter Tryd.func11, Tryd.ntmps11
    go_wp2
    go_ret3
    exact ⟨rfl, Fr.refl _ _⟩
  · rcases mcheck_two m with hz | hz
    · rw [hz] at hc
      obtain ⟨k1, k2, k3, k4⟩ := mcheck_ok hz
      obtain ⟨r, hr⟩ : ∃ r, mback m pos (m.length - 1) = r := ⟨_, rfl⟩
      have e0 : mfind m pos = ((r : Int) + 1, (pos - (m[r]?.getD (0, 0)).1) % (m[r]?.getD (0, 0)).2, 0) := by unfold mfind; rw [if_neg (by omega)]; simp only [hr]
      rw [e0]
      have hpos : m.length ≠ 0 := fun e => k1 (List.eq_nil_of_length_eq_zero e)
      obtain ⟨n, hn⟩ : ∃ n, m.length = n + 1 := ⟨m.length - 1, by omega⟩
      rw [hn, show n + 1 - 1 = n by omega, ← mlast_back] at hr
      have Hr := Lib.hid hr
      have K2 := Lib.hid k2
      have K4 := Lib.hid k4
      have Hc := Lib.hid hc
      rw [hn] at hcap hm Hc ⊢
      have Hn := Lib.hid hn
      clear hr k2 k4 hc k1 k3 e0 hz hn hpos
      go_enter Tryd.func11, Tryd.ntmps11
      go_wp2_with fail
      refine Hc.out.mono ?_
      rintro e w1 ⟨rfl, hf⟩
      have F := Lib.hid hf
      have H1 : Hid (MpAt w1 (.slice ao (n + 1) cap) m) := Lib.hid (by have := H.out.fr hf (fun _ _ _ f => f); rw [Hn.out] at this; unfold MpAt; rw [Hn.out]; exact this)
      clear hf Hc
      go_wp2_with fail
      go_loop [7, 8] (fun kv iv => ∃ (k i : Nat), i ≤ n + 1 ∧ k ≤ n ∧ kv = .int .i64 k ∧ iv = .int .i64 i ∧ Hid (mlast m pos i = k) ∧ Hid (0 < i → ∀ x, m[k]? = some x → x.1 ≤ pos)) (fun _ iv => n + 1 - (intOf iv).toNat)
      case atStart => exact ⟨0, 0, Nat.zero_le _, Nat.zero_le _, rfl, rfl, Lib.hid rfl, Lib.hid (fun h => absurd h (Nat.lt_irrefl _))⟩
      case round =>
        obtain ⟨k, i, hi, hk, rfl, rfl, HB, HL⟩ := hrel
        by_cases hlt : i < n + 1
        · obtain ⟨x, hxk⟩ : ∃ x, m[i]? = some x := ⟨m[i]'(by rw [Hn.out]; omega), by simp⟩
          obtain ⟨g, off, c', he, h0, h1⟩ := mp_cells (w := w1) (v := .slice ao (n + 1) cap) (m := m) H1.out hxk
          rw [Hn.out] at he
          cases he
          have hs := mlast_succ (pos := pos) hxk
          rw [HB.out] at hs
          by_cases hgo : x.1 ≤ pos
          · rw [if_pos hgo] at hs
            have HB2 := Lib.hid hs
            have HL2 : Hid (0 < i + 1 → ∀ y, m[i]? = some y → y.1 ≤ pos) := Lib.hid (fun _ y hy => by rw [hxk] at hy; injection hy with hy; rw [← hy]; exact hgo)
            clear HB HL hs hxk
            go_wp2
            go_round
            case rel => exact ⟨i, i + 1, by omega, by omega, rfl, by go_num, HB2, HL2⟩
            case measure => simp [intOf]; omega
          · rw [if_neg hgo] at hs
            have HB2 := Lib.hid hs
            have hi0 : 0 < i := by
              rcases Nat.eq_zero_or_pos i with e | e
              · subst e
                have := K4.out _ hxk
                omega
              · exact e
            have HL2 : Hid (0 < i + 1 → ∀ y, m[k]? = some y → y.1 ≤ pos) := Lib.hid (fun _ => HL.out hi0)
            clear HB HL hs hxk
            go_wp2
            go_round
            case rel => exact ⟨k, i + 1, by omega, hk, rfl, by go_num, HB2, HL2⟩
            case measure => simp [intOf]; omega
        · have hin : i = n + 1 := by omega
          subst hin
          have hrk : r = k := by rw [← Hr.out, HB.out]
          obtain ⟨x, hxk⟩ : ∃ x, m[k]? = some x := ⟨m[k]'(by rw [Hn.out]; omega), by simp⟩
          obtain ⟨g, off, c', he, h0, h1⟩ := mp_cells (w := w1) (v := .slice ao (n + 1) cap) (m := m) H1.out hxk
          rw [Hn.out] at he
          cases he
          have hx := K2.out x (List.mem_of_getElem? hxk)
          have hle := HL.out (by omega) x hxk
          obtain ⟨f, c⟩ := x
          dsimp only at h0 h1 hx hle
          have hgd : m[r]?.getD (0, 0) = (f, c) := by rw [hrk, hxk]; rfl
          have Hgd := Lib.hid hgd
          have Hrk := Lib.hid hrk
          have hc0 : ¬ c = 0 := by omega
          obtain ⟨hx1, hx2, hx3⟩ := hx
          clear HB hxk hgd hrk HL
          go_wp2
          go_quiet (fail)
          go_wp2
          go_ret3
          refine ⟨?_, F.out.drewN _⟩
          rw [Hgd.out, Hrk.out]
          rfl
    · have e0 : mfind m pos = (0, 0, 1) := by unfold mfind; rw [if_pos (.inr (by omega))]
      rw [e0]
      rw [hz] at hc
      have Hc := Lib.hid hc
      clear hc e0 hz
      generalize m.length = n at *
      go_enter Tryd.func11, Tryd.ntmps11
      go_wp2_with fail
      refine Hc.out.mono ?_
      rintro e w1 ⟨rfl, hf⟩
      go_wp2
      go_ret3
      exact ⟨rfl, hf⟩
end Go.Proofs.YtkdcldnbdhfobaaDoor
