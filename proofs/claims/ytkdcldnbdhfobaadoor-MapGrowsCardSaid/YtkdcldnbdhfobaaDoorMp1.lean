/- Package stripe: Find. -/
import Derived.Test.YtkdcldnbdhfobaaDoorMp0
namespace Go.XL
open Go.RowKit Go.Shelf
set_option linter.unusedVariables false
set_option linter.unusedSimpArgs false
theorem mgo_ok : ∀ (m : Mp) (b : Bool) (l : Int), mgo b l m = 0 → (∀ x ∈ m, l ≤ x.1 ∧ 1 ≤ x.2 ∧ x.2 ≤ 8) ∧ m.Pairwise (fun x y => x.1 ≤ y.1) ∧ (b = true → ∀ x, m[0]? = some x → x.1 = 0) := by
  intro m
  induction m with
  | nil => intro b l _; exact ⟨by simp, .nil, by simp⟩
  | cons y r ih =>
    intro b l h
    rw [mgo] at h
    split at h
    · cases h
    · rename_i hn
      obtain ⟨h1, h2, h3⟩ := ih _ _ h
      refine ⟨fun x hx => ?_, .cons (fun x hx => (h1 x hx).1) h2, fun hb x hx => ?_⟩
      · rcases List.mem_cons.1 hx with rfl | hx
        · omega
        · have := h1 x hx; omega
      · simp at hx
        subst hx
        apply Classical.byContradiction
        intro hx
        exact hn (.inl ⟨hb, hx⟩)
theorem mcheck_ok {m : Mp} (h : mcheck m = 0) : m ≠ [] ∧ (∀ x ∈ m, 0 ≤ x.1 ∧ 1 ≤ x.2 ∧ x.2 ≤ 8) ∧ m.Pairwise (fun x y => x.1 ≤ y.1) ∧ (∀ x, m[0]? = some x → x.1 = 0) := by
  unfold mcheck at h
  split at h
  · cases h
  · rename_i hn
    obtain ⟨h1, h2, h3⟩ := mgo_ok m true 0 h
    exact ⟨hn, h1, h2, h3 rfl⟩
theorem mback_stop {m : Mp} {pos : Int} {k : Nat} {x : Int × Int} (h : m[k]? = some x) (hp : ¬ pos < x.1) : mback m pos k = k := by
  cases k with
  | zero => rfl
  | succ k => rw [mback, h]; exact if_neg hp
theorem mback_go {m : Mp} {pos : Int} {k : Nat} {x : Int × Int} (h : m[k + 1]? = some x) (hp : pos < x.1) : mback m pos (k + 1) = mback m pos k := by
  rw [mback, h]; exact if_pos hp
end Go.XL
namespace Go.Proofs.YtkdcldnbdhfobaaDoor
open Go.RowKit Go.Shelf Go.XL
set_option linter.unusedVariables false
set_option linter.unusedSimpArgs false
attribute [local go_sem] Oper.semAt_some
set_option maxRecDepth 100000 in
set_option maxHeartbeats 4000000 in
theorem m_find (v : Value) (m : Mp) (pos : Int) (w : World) (h : MpAt w v m) (hp : pos ≤ 9223372036854775807) (hm : m.length ≤ 1000000) :
    Calls Tryd.prog 10 #[v, .int .i64 pos] w fun e w' => e = .returned (.tuple #[.int .i64 (mfind m pos).1, .int .i64 (mfind m pos).2.1, .int .i64 (mfind m pos).2.2]) ∧ Fr no w w' := by
  obtain ⟨ao, cap, rfl, hcap, hmx⟩ := h.cap
  have H := Lib.hid h
  have hc := m_check _ m w h
  clear h
  by_cases hp0 : pos < 0
  · have e0 : mfind m pos = (0, 0, 1) := by unfold mfind; rw [if_pos (.inl hp0)]
    rw [e0]
    clear hc
    generalize m.length = n at *
    go_enter Tryd.func10, Tryd.ntmps10
    go_wp2
    go_ret3
    exact ⟨rfl, Fr.refl _ _⟩
  · rcases mcheck_two m with hz | hz
    · rw [hz] at hc
      obtain ⟨k1, k2, k3, k4⟩ := mcheck_ok hz
      obtain ⟨r, hr⟩ : ∃ r, mback m pos (m.length - 1) = r := ⟨_, rfl⟩
      have e0 : mfind m pos = ((r : Int) + 1, (pos - (m[r]?.getD (0, 0)).1) % (m[r]?.getD (0, 0)).2, 0) := by unfold mfind; rw [if_neg (by omega)]; simp only [hr]
      rw [e0]
      have hpos : m.length ≠ 0 := fun e => k1 (List.eq_nil_of_length_eq_zero e)
      obtain ⟨n, hn⟩ : ∃ n, m.length = n + 1 := ⟨m.length - 1, by omega⟩
      rw [hn, show n + 1 - 1 = n by omega] at hr
      have Hr := Lib.hid hr
      have K2 := Lib.hid k2
      have K4 := Lib.hid k4
      have Hc := Lib.hid hc
      rw [hn] at hcap hm Hc ⊢
      have Hn := Lib.hid hn
      clear hr k2 k4 hc k1 k3 e0 hz hn hpos
      go_enter Tryd.func10, Tryd.ntmps10
      go_wp2_with fail
      refine Hc.out.mono ?_
      rintro e w1 ⟨rfl, hf⟩
      have F := Lib.hid hf
      have H1 : Hid (MpAt w1 (.slice ao (n + 1) cap) m) := Lib.hid (by have := H.out.fr hf (fun _ _ _ f => f); rw [Hn.out] at this; unfold MpAt; rw [Hn.out]; exact this)
      clear hf Hc
      go_wp2_with fail
      go_loop [7] (fun kv => ∃ (k : Nat), k ≤ n ∧ kv = .int .i64 k ∧ Hid (mback m pos k = r)) (fun kv => (intOf kv).toNat)
      case atStart => exact ⟨n, Nat.le_refl _, by go_num, Hr⟩
      case round =>
        obtain ⟨k, hk, rfl, HB⟩ := hrel
        obtain ⟨x, hxk⟩ : ∃ x, m[k]? = some x := ⟨m[k]'(by rw [Hn.out]; omega), by simp⟩
        obtain ⟨g, off, c', he, h0, h1⟩ := mp_cells (w := w1) (v := .slice ao (n + 1) cap) (m := m) H1.out hxk
        rw [Hn.out] at he
        cases he
        have hx := K2.out x (List.mem_of_getElem? hxk)
        obtain ⟨f, c⟩ := x
        dsimp only at h0 h1 hx
        by_cases hgo : pos < f
        · cases k with
          | zero =>
            have := K4.out _ hxk
            dsimp only at this
            omega
          | succ k =>
            have HB2 : Hid (mback m pos k = r) := Lib.hid (by rw [← HB.out]; exact (mback_go hxk hgo).symm)
            clear HB hxk
            go_wp2
            go_round
            case rel => exact ⟨k, by omega, by go_num, HB2⟩
            case measure => simp [intOf]
        · have hrk : r = k := by rw [← HB.out]; exact mback_stop hxk hgo
          have hgd : m[r]?.getD (0, 0) = (f, c) := by rw [hrk, hxk]; rfl
          have Hgd := Lib.hid hgd
          have Hrk := Lib.hid hrk
          have hc0 : ¬ c = 0 := by omega
          obtain ⟨hx1, hx2, hx3⟩ := hx
          clear HB hxk hgd hrk
          go_wp2
          go_quiet (fail)
          go_wp2
          go_ret3
          refine ⟨?_, F.out.drewN _⟩
          rw [Hgd.out, Hrk.out]
          rfl
    · have e0 : mfind m pos = (0, 0, 1) := by unfold mfind; rw [if_pos (.inr (by omega))]
      rw [e0]
      rw [hz] at hc
      have Hc := Lib.hid hc
      clear hc e0 hz
      generalize m.length = n at *
      go_enter Tryd.func10, Tryd.ntmps10
      go_wp2_with fail
      refine Hc.out.mono ?_
      rintro e w1 ⟨rfl, hf⟩
      go_wp2
      go_ret3
      exact ⟨rfl, hf⟩
end Go.Proofs.YtkdcldnbdhfobaaDoor
