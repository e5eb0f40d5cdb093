/- The reference's maps in words: MapText; the laws' Of, same. -/
import Derived.Test.YtkdcldnbdhfobaaDoorMpQ
import Derived.Test.YtkdcldnbdhfobaaDoorRefT
import Derived.Test.YtkdcldnbdhfobaaDoorHeld2
import Derived.Test.YtkdcldnbdhfobaaDoorMp2
namespace Go.XL
open Go.RowKit Go.Shelf
set_option linter.unusedVariables false
set_option linter.unusedSimpArgs false
theorem wjoin_snoc (w : List UInt8) : ∀ ws : List (List UInt8), ws ≠ [] → wjoin (ws ++ [w]) = wjoin ws ++ 32 :: w
  | [], h => absurd rfl h
  | [a], _ => by simp [wjoin]
  | a :: b :: r, _ => by
    rw [List.cons_append, wjoin_cons a _ (by simp), wjoin_snoc w (b :: r) (by simp), wjoin_cons a (b :: r) (by simp)]
    simp
def mfrontT (m : Mp) (i : Nat) : List UInt8 := wjoin ((m.take i).map mword)
theorem mfrontT_one {m : Mp} {x : Int × Int} (h : m[0]? = some x) : mfrontT m 1 = mword x := by
  unfold mfrontT
  rw [List.take_add_one, h]
  simp [wjoin]
theorem mfrontT_succ {m : Mp} {x : Int × Int} {i : Nat} (h : m[i]? = some x) (h0 : 0 < i) : mfrontT m (i + 1) = mfrontT m i ++ 32 :: mword x := by
  unfold mfrontT
  rw [List.take_add_one, h]
  simp only [Option.toList_some, List.map_append, List.map_cons, List.map_nil]
  refine wjoin_snoc _ _ (fun e => ?_)
  have := congrArg List.length e
  rw [List.length_map, List.length_take, List.length_nil] at this
  have := (List.getElem?_eq_some_iff.1 h).1
  omega
theorem mfrontT_len {m : Mp} (h : Mp64 m) (i : Nat) : (mfrontT m i).length ≤ 46 * m.length := by
  have h2 : Mp64 (m.take i) := fun x hx => h x (List.mem_of_mem_take hx)
  have := mtext_len h2
  unfold mtext at this
  rw [List.length_take] at this
  unfold mfrontT
  omega
end Go.XL
namespace Go.Proofs.YtkdcldnbdhfobaaDoor
open Go.RowKit Go.Shelf Go.XL
set_option linter.unusedVariables false
set_option linter.unusedSimpArgs false
attribute [local go_sem] Oper.semAt_some
set_option maxRecDepth 100000 in
set_option maxHeartbeats 4000000 in
theorem ref_maptext (v : Value) (m : Mp) (w : World) (h : MpAt w v m) (hm : m.length ≤ 1000) (h64 : Mp64 m) :
    Calls Tryd.prog 18 #[v] w fun e w' => e = .returned (.string ⟨(mtext m).toArray⟩) ∧ Fr no w w' := by
  obtain ⟨ao, cap, rfl, hcap, hmx⟩ := h.cap
  have H := Lib.hid h
  have H64 := Lib.hid h64
  clear h h64
  generalize hn : m.length = n at *
  have Hn := Lib.hid hn
  clear hn
  go_enter Tryd.func18, Tryd.ntmps18
  go_wp2_with fail
  go_loopw [3, 4] (fun sv iv wr => ∃ (i : Nat) (t : ByteArray), i ≤ n ∧ iv = .int .i64 i ∧ sv = .string t ∧ Hid (t = ⟨(mfrontT m i).toArray⟩) ∧ Hid (Fr no w wr)) (fun _ iv _ => n - (intOf iv).toNat)
  case atStart => exact ⟨0, ⟨#[]⟩, Nat.zero_le _, rfl, rfl, Lib.hid rfl, Lib.hid (Fr.refl _ _)⟩
  case round =>
    obtain ⟨i, t, hi, rfl, rfl, HT, HF⟩ := hrel
    have htl : t.size ≤ 100000 := by
      have := mfrontT_len H64.out i
      rw [Hn.out] at this
      rw [HT.out]
      show (mfrontT m i).toArray.size ≤ 100000
      simp; omega
    generalize wr = V at *
    by_cases hlt : i < n
    · obtain ⟨x, hxk⟩ : ∃ x, m[i]? = some x := ⟨m[i]'(by rw [Hn.out]; exact hlt), by simp⟩
      have hm64 := H64.out x (List.mem_of_getElem? hxk)
      obtain ⟨g, off, c', he, h0, h1⟩ := mp_cells (w := V) (v := .slice ao n cap) (m := m) (by have := H.out.fr HF.out (fun _ _ _ f => f); rwa [← Hn.out] at this ⊢) hxk
      rw [Hn.out] at he
      cases he
      obtain ⟨f, c⟩ := x
      dsimp only at h0 h1 hm64
      obtain ⟨r0, hr0⟩ : ∃ r : ByteArray, ⟨(Lib.itoa f).toArray⟩ = r := ⟨_, rfl⟩
      obtain ⟨r1, hr1⟩ : ∃ r : ByteArray, ⟨(Lib.itoa c).toArray⟩ = r := ⟨_, rfl⟩
      have hi0 : ∀ U, Calls Tryd.prog 27 #[.int .i64 f] U fun e w' => e = .returned (.string r0) ∧ Fr no U w' := fun U => by rw [← hr0]; exact ref_dec f U hm64.1.1 hm64.1.2
      have hi1 : ∀ U, Calls Tryd.prog 27 #[.int .i64 c] U fun e w' => e = .returned (.string r1) ∧ Fr no U w' := fun U => by rw [← hr1]; exact ref_dec c U hm64.2.1 hm64.2.2
      have hs0 : r0.size ≤ 22 := by rw [← hr0]; show (Lib.itoa f).toArray.size ≤ 22; have := itoa_len f hm64.1.1 hm64.1.2; simpa using this
      have hs1 : r1.size ≤ 22 := by rw [← hr1]; show (Lib.itoa c).toArray.size ≤ 22; have := itoa_len c hm64.2.1 hm64.2.2; simpa using this
      have hz0 : ¬ 9223372036854775807 < t.size + r0.size := by omega
      have hz1 : ¬ 9223372036854775807 < t.size + r0.size + 1 := by omega
      have hz2 : ¬ 9223372036854775807 < t.size + r0.size + 1 + r1.size := by omega
      have hz3 : ¬ 9223372036854775807 < t.size + 1 + r0.size := by omega
      have hz4 : ¬ 9223372036854775807 < t.size + 1 + r0.size + 1 := by omega
      have hz5 : ¬ 9223372036854775807 < t.size + 1 + r0.size + 1 + r1.size := by omega
      have Hi0 := Lib.hid hi0
      have Hi1 := Lib.hid hi1
      have hway : (i = 0 ∧ Hid (t ++ r0 ++ ⟨#[47]⟩ ++ r1 = ⟨(mfrontT m (i + 1)).toArray⟩)) ∨ (0 < i ∧ Hid (t ++ ⟨#[32]⟩ ++ r0 ++ ⟨#[47]⟩ ++ r1 = ⟨(mfrontT m (i + 1)).toArray⟩)) := by
        rcases Nat.eq_zero_or_pos i with e | e
        · refine .inl ⟨e, Lib.hid ?_⟩
          subst e
          rw [HT.out, ← hr0, ← hr1, mfrontT_one hxk]
          exact ByteArray.ext (by simp [mfrontT, mword, wjoin])
        · refine .inr ⟨e, Lib.hid ?_⟩
          rw [HT.out, ← hr0, ← hr1, mfrontT_succ hxk e]
          exact ByteArray.ext (by simp [mword])
      clear hi0 hi1 hxk hm64 hr0 hr1 HT
      rcases hway with ⟨hi0, HE⟩ | ⟨hi0, HE⟩
      · subst hi0
        simp only [Nat.zero_mul, Nat.add_zero] at h0 h1
        go_upto_region 7 with (fail)
        obtain ⟨Sg102_0, HSg102_0⟩ : ∃ S : World → Prop, Hid (S = (fun w' => w'.cell? ⟨g, off, none⟩ = some (.int .i64 f) ∧ w'.cell? ⟨g, off+1, none⟩ = some (.int .i64 c))) := ⟨_, Lib.hid rfl⟩
        refine wp_heldp [] (pickS [Sg102_0]) (by kernel_rfl) ?_ (fun hHeld => ?_)
        · show Sg102_0 _; rw [HSg102_0.out]; exact ⟨h0, h1⟩
        obtain ⟨wc, hwc⟩ : ∃ x, V.drew = x := ⟨_, rfl⟩; rw [hwc] at hHeld; rw [hwc]; have HFc : Hid (Fr no V wc) := (by rw [← hwc]; exact Lib.hid ((Fr.refl no V).drewN 1)); clear hwc
        refine heldp_take (v := ?_) 0 0 rfl (by kernel_rfl) (.inl ⟨by rfl, ?_⟩) hHeld ?_
        rotate_left
        · intro w hSw; replace hSw : Sg102_0 w := hSw; rw [HSg102_0.out] at hSw; (try dsimp only at hSw); first | (go_simp; done) | (go_simp; with_reducible rfl)
        try simp only [Act.put, List.setIfInBounds_toArray, List.set_cons_zero, List.set_cons_succ]
        refine heldp_take (v := ?_) 1 0 rfl (by kernel_rfl) (.inl ⟨by rfl, ?_⟩) hHeld ?_
        rotate_left
        · intro w hSw; replace hSw : Sg102_0 w := hSw; rw [HSg102_0.out] at hSw; (try dsimp only at hSw); first | (go_simp; done) | (go_simp; with_reducible rfl)
        try simp only [Act.put, List.setIfInBounds_toArray, List.set_cons_zero, List.set_cons_succ]
        refine heldp_take (v := ?_) 2 0 rfl (by kernel_rfl) (.inl ⟨by rfl, ?_⟩) hHeld ?_
        rotate_left
        · intro w hSw; replace hSw : Sg102_0 w := hSw; rw [HSg102_0.out] at hSw; (try dsimp only at hSw); first | (go_simp; done) | (go_simp; with_reducible rfl)
        try simp only [Act.put, List.setIfInBounds_toArray, List.set_cons_zero, List.set_cons_succ]
        refine heldp_take (v := ?_) 3 0 rfl (by kernel_rfl) (.inl ⟨by rfl, ?_⟩) hHeld ?_
        rotate_left
        · intro w hSw; replace hSw : Sg102_0 w := hSw; rw [HSg102_0.out] at hSw; (try dsimp only at hSw); first | (go_simp; done) | (go_simp; with_reducible rfl)
        try simp only [Act.put, List.setIfInBounds_toArray, List.set_cons_zero, List.set_cons_succ]
        refine heldp_take (v := ?_) 4 0 rfl (by kernel_rfl) (.inl ⟨by rfl, ?_⟩) hHeld ?_
        rotate_left
        · intro w hSw; replace hSw : Sg102_0 w := hSw; rw [HSg102_0.out] at hSw; (try dsimp only at hSw); first | (go_simp; done) | (go_simp; with_reducible rfl)
        try simp only [Act.put, List.setIfInBounds_toArray, List.set_cons_zero, List.set_cons_succ]
        refine heldp_take (v := ?_) 5 0 rfl (by kernel_rfl) (.inl ⟨by rfl, ?_⟩) hHeld ?_
        rotate_left
        · intro w hSw; replace hSw : Sg102_0 w := hSw; rw [HSg102_0.out] at hSw; (try dsimp only at hSw); first | (go_simp; done) | (go_simp; with_reducible rfl)
        try simp only [Act.put, List.setIfInBounds_toArray, List.set_cons_zero, List.set_cons_succ]
        refine heldp_take (v := ?_) 9 0 rfl (by kernel_rfl) (.inl ⟨by rfl, ?_⟩) hHeld ?_
        rotate_left
        · intro w hSw; replace hSw : Sg102_0 w := hSw; rw [HSg102_0.out] at hSw; (try dsimp only at hSw); first | (go_simp; done) | (go_simp; with_reducible rfl)
        try simp only [Act.put, List.setIfInBounds_toArray, List.set_cons_zero, List.set_cons_succ]
        refine heldp_take (v := ?_) 10 0 rfl (by kernel_rfl) (.inl ⟨by rfl, ?_⟩) hHeld ?_
        rotate_left
        · intro w hSw; replace hSw : Sg102_0 w := hSw; rw [HSg102_0.out] at hSw; (try dsimp only at hSw); first | (go_simp; done) | (go_simp; with_reducible rfl)
        try simp only [Act.put, List.setIfInBounds_toArray, List.set_cons_zero, List.set_cons_succ]
        refine heldp_take (v := ?_) 11 0 rfl (by kernel_rfl) (.inl ⟨by rfl, ?_⟩) hHeld ?_
        rotate_left
        · intro w hSw; replace hSw : Sg102_0 w := hSw; rw [HSg102_0.out] at hSw; (try dsimp only at hSw); first | (go_simp; done) | (go_simp; with_reducible rfl)
        try simp only [Act.put, List.setIfInBounds_toArray, List.set_cons_zero, List.set_cons_succ]
        refine heldp_take (v := ?_) 12 0 rfl (by kernel_rfl) (.inl ⟨by rfl, ?_⟩) hHeld ?_
        rotate_left
        · intro w hSw; replace hSw : Sg102_0 w := hSw; rw [HSg102_0.out] at hSw; (try dsimp only at hSw); first | (go_simp; done) | (go_simp; with_reducible rfl)
        try simp only [Act.put, List.setIfInBounds_toArray, List.set_cons_zero, List.set_cons_succ]
        refine heldp_take (v := ?_) 13 0 rfl (by kernel_rfl) (.inl ⟨by rfl, ?_⟩) hHeld ?_
        rotate_left
        · intro w hSw; replace hSw : Sg102_0 w := hSw; rw [HSg102_0.out] at hSw; (try dsimp only at hSw); first | (go_simp; done) | (go_simp; with_reducible rfl)
        try simp only [Act.put, List.setIfInBounds_toArray, List.set_cons_zero, List.set_cons_succ]
        refine heldp_call 6 0 rfl (by kernel_rfl) (fun K hK => ?_)
        go_simp
        go_at_call 27
        refine (Hi0.out _).mono ?_
        rintro e wc ⟨rfl, hfd⟩
        replace HFc := Lib.hid (HFc.out.trans' hfd)
        clear hfd
        refine hK.out _ _ ?_ (fun hHeld' => ?_)
        · show Sg102_0 _; rw [HSg102_0.out]; exact ⟨HFc.out.cell h0 (fun f => f), HFc.out.cell h1 (fun f => f)⟩
        clear hK K hHeld
        have hHeld := hHeld'
        clear hHeld'
        try simp only [Act.put, List.setIfInBounds_toArray, List.set_cons_zero, List.set_cons_succ]
        refine heldp_take (v := ?_) 7 0 rfl (by kernel_rfl) (.inl ⟨by rfl, ?_⟩) hHeld ?_
        rotate_left
        · intro w hSw; replace hSw : Sg102_0 w := hSw; rw [HSg102_0.out] at hSw; (try dsimp only at hSw); first | (go_simp; done) | (go_simp; with_reducible rfl)
        try simp only [Act.put, List.setIfInBounds_toArray, List.set_cons_zero, List.set_cons_succ]
        refine heldp_take (v := ?_) 8 0 rfl (by kernel_rfl) (.inl ⟨by rfl, ?_⟩) hHeld ?_
        rotate_left
        · intro w hSw; replace hSw : Sg102_0 w := hSw; rw [HSg102_0.out] at hSw; (try dsimp only at hSw); first | (go_simp; done) | (go_simp; with_reducible rfl)
        try simp only [Act.put, List.setIfInBounds_toArray, List.set_cons_zero, List.set_cons_succ]
        refine heldp_call 14 0 rfl (by kernel_rfl) (fun K hK => ?_)
        go_simp
        go_at_call 27
        refine (Hi1.out _).mono ?_
        rintro e wc ⟨rfl, hfd⟩
        replace HFc := Lib.hid (HFc.out.trans' hfd)
        clear hfd
        refine hK.out _ _ ?_ (fun hHeld' => ?_)
        · show Sg102_0 _; rw [HSg102_0.out]; exact ⟨HFc.out.cell h0 (fun f => f), HFc.out.cell h1 (fun f => f)⟩
        clear hK K hHeld
        have hHeld := hHeld'
        clear hHeld'
        try simp only [Act.put, List.setIfInBounds_toArray, List.set_cons_zero, List.set_cons_succ]
        refine heldp_take (v := ?_) 15 0 rfl (by kernel_rfl) (.inl ⟨by rfl, ?_⟩) hHeld ?_
        rotate_left
        · intro w hSw; replace hSw : Sg102_0 w := hSw; rw [HSg102_0.out] at hSw; (try dsimp only at hSw); first | (go_simp; done) | (go_simp; with_reducible rfl)
        try simp only [Act.put, List.setIfInBounds_toArray, List.set_cons_zero, List.set_cons_succ]
        refine heldp_take (v := ?_) 16 0 rfl (by kernel_rfl) (.inl ⟨by rfl, ?_⟩) hHeld ?_
        rotate_left
        · intro w hSw; replace hSw : Sg102_0 w := hSw; rw [HSg102_0.out] at hSw; (try dsimp only at hSw); first | (go_simp; done) | (go_simp; with_reducible rfl)
        try simp only [Act.put, List.setIfInBounds_toArray, List.set_cons_zero, List.set_cons_succ]
        refine heldp_done (by kernel_rfl) ?_
        try clear hHeld
        clear HSg102_0
        try clear Sg102_0
        have HF2 := Lib.hid (HF.out.trans' HFc.out)
        clear h0 h1 HFc HF
        go_wp2
        go_roundw
        case rel => exact ⟨1, _, by omega, by go_num, rfl, HE, HF2⟩
        case measure => simp [intOf]; omega
      · skip
        go_upto_region 7 with (fail)
        obtain ⟨Sg204_0, HSg204_0⟩ : ∃ S : World → Prop, Hid (S = (fun w' => w'.cell? ⟨g, off+i*2, none⟩ = some (.int .i64 f) ∧ w'.cell? ⟨g, off+i*2+1, none⟩ = some (.int .i64 c))) := ⟨_, Lib.hid rfl⟩
        refine wp_heldp [] (pickS [Sg204_0]) (by kernel_rfl) ?_ (fun hHeld => ?_)
        · show Sg204_0 _; rw [HSg204_0.out]; exact ⟨h0, h1⟩
        obtain ⟨wc, hwc⟩ : ∃ x, V.drew = x := ⟨_, rfl⟩; rw [hwc] at hHeld; rw [hwc]; have HFc : Hid (Fr no V wc) := (by rw [← hwc]; exact Lib.hid ((Fr.refl no V).drewN 1)); clear hwc
        refine heldp_take (v := ?_) 0 0 rfl (by kernel_rfl) (.inl ⟨by rfl, ?_⟩) hHeld ?_
        rotate_left
        · intro w hSw; replace hSw : Sg204_0 w := hSw; rw [HSg204_0.out] at hSw; (try dsimp only at hSw); first | (go_simp; done) | (go_simp; with_reducible rfl)
        try simp only [Act.put, List.setIfInBounds_toArray, List.set_cons_zero, List.set_cons_succ]
        refine heldp_take (v := ?_) 1 0 rfl (by kernel_rfl) (.inl ⟨by rfl, ?_⟩) hHeld ?_
        rotate_left
        · intro w hSw; replace hSw : Sg204_0 w := hSw; rw [HSg204_0.out] at hSw; (try dsimp only at hSw); first | (go_simp; done) | (go_simp; with_reducible rfl)
        try simp only [Act.put, List.setIfInBounds_toArray, List.set_cons_zero, List.set_cons_succ]
        refine heldp_take (v := ?_) 2 0 rfl (by kernel_rfl) (.inl ⟨by rfl, ?_⟩) hHeld ?_
        rotate_left
        · intro w hSw; replace hSw : Sg204_0 w := hSw; rw [HSg204_0.out] at hSw; (try dsimp only at hSw); first | (go_simp; done) | (go_simp; with_reducible rfl)
        try simp only [Act.put, List.setIfInBounds_toArray, List.set_cons_zero, List.set_cons_succ]
        refine heldp_take (v := ?_) 3 0 rfl (by kernel_rfl) (.inl ⟨by rfl, ?_⟩) hHeld ?_
        rotate_left
        · intro w hSw; replace hSw : Sg204_0 w := hSw; rw [HSg204_0.out] at hSw; (try dsimp only at hSw); first | (go_simp; done) | (go_simp; with_reducible rfl)
        try simp only [Act.put, List.setIfInBounds_toArray, List.set_cons_zero, List.set_cons_succ]
        refine heldp_take (v := ?_) 4 0 rfl (by kernel_rfl) (.inl ⟨by rfl, ?_⟩) hHeld ?_
        rotate_left
        · intro w hSw; replace hSw : Sg204_0 w := hSw; rw [HSg204_0.out] at hSw; (try dsimp only at hSw); first | (go_simp; done) | (go_simp; with_reducible rfl)
        try simp only [Act.put, List.setIfInBounds_toArray, List.set_cons_zero, List.set_cons_succ]
        refine heldp_take (v := ?_) 5 0 rfl (by kernel_rfl) (.inl ⟨by rfl, ?_⟩) hHeld ?_
        rotate_left
        · intro w hSw; replace hSw : Sg204_0 w := hSw; rw [HSg204_0.out] at hSw; (try dsimp only at hSw); first | (go_simp; done) | (go_simp; with_reducible rfl)
        try simp only [Act.put, List.setIfInBounds_toArray, List.set_cons_zero, List.set_cons_succ]
        refine heldp_take (v := ?_) 9 0 rfl (by kernel_rfl) (.inl ⟨by rfl, ?_⟩) hHeld ?_
        rotate_left
        · intro w hSw; replace hSw : Sg204_0 w := hSw; rw [HSg204_0.out] at hSw; (try dsimp only at hSw); first | (go_simp; done) | (go_simp; with_reducible rfl)
        try simp only [Act.put, List.setIfInBounds_toArray, List.set_cons_zero, List.set_cons_succ]
        refine heldp_take (v := ?_) 10 0 rfl (by kernel_rfl) (.inl ⟨by rfl, ?_⟩) hHeld ?_
        rotate_left
        · intro w hSw; replace hSw : Sg204_0 w := hSw; rw [HSg204_0.out] at hSw; (try dsimp only at hSw); first | (go_simp; done) | (go_simp; with_reducible rfl)
        try simp only [Act.put, List.setIfInBounds_toArray, List.set_cons_zero, List.set_cons_succ]
        refine heldp_take (v := ?_) 11 0 rfl (by kernel_rfl) (.inl ⟨by rfl, ?_⟩) hHeld ?_
        rotate_left
        · intro w hSw; replace hSw : Sg204_0 w := hSw; rw [HSg204_0.out] at hSw; (try dsimp only at hSw); first | (go_simp; done) | (go_simp; with_reducible rfl)
        try simp only [Act.put, List.setIfInBounds_toArray, List.set_cons_zero, List.set_cons_succ]
        refine heldp_take (v := ?_) 12 0 rfl (by kernel_rfl) (.inl ⟨by rfl, ?_⟩) hHeld ?_
        rotate_left
        · intro w hSw; replace hSw : Sg204_0 w := hSw; rw [HSg204_0.out] at hSw; (try dsimp only at hSw); first | (go_simp; done) | (go_simp; with_reducible rfl)
        try simp only [Act.put, List.setIfInBounds_toArray, List.set_cons_zero, List.set_cons_succ]
        refine heldp_take (v := ?_) 13 0 rfl (by kernel_rfl) (.inl ⟨by rfl, ?_⟩) hHeld ?_
        rotate_left
        · intro w hSw; replace hSw : Sg204_0 w := hSw; rw [HSg204_0.out] at hSw; (try dsimp only at hSw); first | (go_simp; done) | (go_simp; with_reducible rfl)
        try simp only [Act.put, List.setIfInBounds_toArray, List.set_cons_zero, List.set_cons_succ]
        refine heldp_call 6 0 rfl (by kernel_rfl) (fun K hK => ?_)
        go_simp
        go_at_call 27
        refine (Hi0.out _).mono ?_
        rintro e wc ⟨rfl, hfd⟩
        replace HFc := Lib.hid (HFc.out.trans' hfd)
        clear hfd
        refine hK.out _ _ ?_ (fun hHeld' => ?_)
        · show Sg204_0 _; rw [HSg204_0.out]; exact ⟨HFc.out.cell h0 (fun f => f), HFc.out.cell h1 (fun f => f)⟩
        clear hK K hHeld
        have hHeld := hHeld'
        clear hHeld'
        try simp only [Act.put, List.setIfInBounds_toArray, List.set_cons_zero, List.set_cons_succ]
        refine heldp_take (v := ?_) 7 0 rfl (by kernel_rfl) (.inl ⟨by rfl, ?_⟩) hHeld ?_
        rotate_left
        · intro w hSw; replace hSw : Sg204_0 w := hSw; rw [HSg204_0.out] at hSw; (try dsimp only at hSw); first | (go_simp; done) | (go_simp; with_reducible rfl)
        try simp only [Act.put, List.setIfInBounds_toArray, List.set_cons_zero, List.set_cons_succ]
        refine heldp_take (v := ?_) 8 0 rfl (by kernel_rfl) (.inl ⟨by rfl, ?_⟩) hHeld ?_
        rotate_left
        · intro w hSw; replace hSw : Sg204_0 w := hSw; rw [HSg204_0.out] at hSw; (try dsimp only at hSw); first | (go_simp; done) | (go_simp; with_reducible rfl)
        try simp only [Act.put, List.setIfInBounds_toArray, List.set_cons_zero, List.set_cons_succ]
        refine heldp_call 14 0 rfl (by kernel_rfl) (fun K hK => ?_)
        go_simp
        go_at_call 27
        refine (Hi1.out _).mono ?_
        rintro e wc ⟨rfl, hfd⟩
        replace HFc := Lib.hid (HFc.out.trans' hfd)
        clear hfd
        refine hK.out _ _ ?_ (fun hHeld' => ?_)
        · show Sg204_0 _; rw [HSg204_0.out]; exact ⟨HFc.out.cell h0 (fun f => f), HFc.out.cell h1 (fun f => f)⟩
        clear hK K hHeld
        have hHeld := hHeld'
        clear hHeld'
        try simp only [Act.put, List.setIfInBounds_toArray, List.set_cons_zero, List.set_cons_succ]
        refine heldp_take (v := ?_) 15 0 rfl (by kernel_rfl) (.inl ⟨by rfl, ?_⟩) hHeld ?_
        rotate_left
        · intro w hSw; replace hSw : Sg204_0 w := hSw; rw [HSg204_0.out] at hSw; (try dsimp only at hSw); first | (go_simp; done) | (go_simp; with_reducible rfl)
        try simp only [Act.put, List.setIfInBounds_toArray, List.set_cons_zero, List.set_cons_succ]
        refine heldp_take (v := ?_) 16 0 rfl (by kernel_rfl) (.inl ⟨by rfl, ?_⟩) hHeld ?_
        rotate_left
        · intro w hSw; replace hSw : Sg204_0 w := hSw; rw [HSg204_0.out] at hSw; (try dsimp only at hSw); first | (go_simp; done) | (go_simp; with_reducible rfl)
        try simp only [Act.put, List.setIfInBounds_toArray, List.set_cons_zero, List.set_cons_succ]
        refine heldp_done (by kernel_rfl) ?_
        try clear hHeld
        clear HSg204_0
        try clear Sg204_0
        have HF2 := Lib.hid (HF.out.trans' HFc.out)
        clear h0 h1 HFc HF
        go_wp2
        go_roundw
        case rel => exact ⟨i+1, _, by omega, by go_num, rfl, HE, HF2⟩
        case measure => simp [intOf]; omega
    · obtain rfl : i = n := by omega
      go_wp2
      go_ret
      refine ⟨?_, HF.out⟩
      refine congrArg Ending.returned (congrArg Value.string ?_)
      rw [HT.out]
      unfold mfrontT mtext
      rw [List.take_of_length_le (by rw [Hn.out]; exact Nat.le_refl _)]
set_option maxRecDepth 100000 in
set_option maxHeartbeats 4000000 in
theorem law_ofmap (v : Value) (m : Mp) (w : World) (h : MpAt w v m) (hm : m.length ≤ 100000) :
    Calls Tryd.prog 9 #[v] w fun e w' => ∃ v', e = .returned v' ∧ Ow w w' 60 2 v' m.length (mpCells m) := by
  obtain ⟨ao, cap, rfl, hcap, hmx⟩ := h.cap
  have H := Lib.hid h
  clear h
  obtain ⟨j0, hj0, jz0, jz1, jz2⟩ := info_parts (show (Tryd.prog.info? 60).map (fun i => (i.zero, i.size, i.bytes)) = some (some (.agg #[.int .i64 0, .int .i64 0]), 2, 16) by kernel_rfl)
  generalize hn : m.length = n at *
  have Hn := Lib.hid hn
  clear hn
  go_enter Tryd.func9, Tryd.ntmps9
  go_wp2_with fail
  go_loopw [3, 4] (fun ov iv wr => ∃ (k : Nat) (bo : Option Addr) (bc : Nat), k ≤ n ∧ iv = .int .i64 k ∧ ov = .slice bo k bc ∧ Hid (Ow w wr 60 2 (.slice bo k bc) k (mpCells (m.take k)))) (fun _ iv _ => n - (intOf iv).toNat)
  case atStart => exact ⟨0, none, 0, Nat.zero_le _, rfl, rfl, Lib.hid (Ow.nil (Fr.refl _ _) _ _)⟩
  case round =>
    obtain ⟨k, bo, bc, hk, rfl, rfl, hO⟩ := hrel
    generalize wr = V at *
    by_cases hlt : k < n
    · obtain ⟨x, hxk⟩ : ∃ x, m[k]? = some x := ⟨m[k]'(by rw [Hn.out]; exact hlt), by simp⟩
      obtain ⟨g, off, c', he, h0, h1⟩ := mp_cells (w := V) (v := .slice ao n cap) (m := m) (by have := H.out.fr hO.out.fr (fun _ _ _ f => f); rwa [← Hn.out] at this ⊢) hxk
      rw [Hn.out] at he
      cases he
      have htk : mpCells (m.take (k + 1)) = mpCells (m.take k) ++ [.int .i64 x.1, .int .i64 x.2] := by rw [List.take_add_one, hxk, mpCells_app]; rfl
      have Htk := Lib.hid htk
      obtain ⟨f, c⟩ := x
      dsimp only at h0 h1 Htk
      have hgk : (Value.slice bo k bc).ownBlock ≠ some g := fun e => by
        have := hO.out.fresh _ e
        obtain ⟨g2, off2, c2, he2, h02, h12⟩ := mp_cells (w := w) (v := .slice (some ⟨g, off, none⟩) n cap) (m := m) (by have := H.out; rwa [← Hn.out] at this ⊢) hxk
        rw [Hn.out] at he2
        cases he2
        have := World.block_lt_of_cell? w _ h02
        simp at this
        omega
      have HO2 := hO
      clear htk hxk hO
      have hway : (k = 0) ∨ 0 < k := Nat.eq_zero_or_pos k
      go_upto_region 5 with (fail)
      obtain ⟨Sg351_0, HSg351_0⟩ : ∃ S : World → Prop, Hid (S = (fun w' => w'.cell? ⟨g, off + k * 2, none⟩ = some (.int .i64 f) ∧ w'.cell? ⟨g, off + k * 2 + 1, none⟩ = some (.int .i64 c))) := ⟨_, Lib.hid rfl⟩
      refine wp_heldp [] (pickS [Sg351_0]) (by kernel_rfl) ?_ (fun hHeld => ?_)
      · show Sg351_0 _; rw [HSg351_0.out]; exact ⟨h0, h1⟩
      obtain ⟨wc, hwc⟩ : ∃ x, V.drew = x := ⟨_, rfl⟩; rw [hwc] at hHeld; rw [hwc]; have HF : Hid (Fr no V wc) := (by rw [← hwc]; exact Lib.hid ((Fr.refl no V).drewN 1)); clear hwc
      refine heldp_take (v := ?_) 0 0 rfl (by kernel_rfl) (.inl ⟨by rfl, ?_⟩) hHeld ?_
      rotate_left
      · intro w hSw; replace hSw : Sg351_0 w := hSw; rw [HSg351_0.out] at hSw; (try dsimp only at hSw); first | (go_simp; done) | (go_simp; with_reducible rfl)
      try simp only [Act.put, List.setIfInBounds_toArray, List.set_cons_zero, List.set_cons_succ]
      refine heldp_take (v := ?_) 1 0 rfl (by kernel_rfl) (.inl ⟨by rfl, ?_⟩) hHeld ?_
      rotate_left
      · intro w hSw; replace hSw : Sg351_0 w := hSw; rw [HSg351_0.out] at hSw; (try dsimp only at hSw); first | (go_simp; done) | (go_simp; with_reducible rfl)
      try simp only [Act.put, List.setIfInBounds_toArray, List.set_cons_zero, List.set_cons_succ]
      refine heldp_take (v := ?_) 2 0 rfl (by kernel_rfl) (.inl ⟨by rfl, ?_⟩) hHeld ?_
      rotate_left
      · intro w hSw; replace hSw : Sg351_0 w := hSw; rw [HSg351_0.out] at hSw; (try dsimp only at hSw); first | (go_simp; done) | (go_simp; with_reducible rfl)
      try simp only [Act.put, List.setIfInBounds_toArray, List.set_cons_zero, List.set_cons_succ]
      refine heldp_take (v := ?_) 3 0 rfl (by kernel_rfl) (.inl ⟨by rfl, ?_⟩) hHeld ?_
      rotate_left
      · intro w hSw; replace hSw : Sg351_0 w := hSw; rw [HSg351_0.out] at hSw; (try dsimp only at hSw); first | (go_simp; done) | (go_simp; with_reducible rfl)
      try simp only [Act.put, List.setIfInBounds_toArray, List.set_cons_zero, List.set_cons_succ]
      refine heldp_take (v := ?_) 4 0 rfl (by kernel_rfl) (.inl ⟨by rfl, ?_⟩) hHeld ?_
      rotate_left
      · intro w hSw; replace hSw : Sg351_0 w := hSw; rw [HSg351_0.out] at hSw; (try dsimp only at hSw); first | (go_simp; done) | (go_simp; with_reducible rfl)
      try simp only [Act.put, List.setIfInBounds_toArray, List.set_cons_zero, List.set_cons_succ]
      refine heldp_take (v := ?_) 5 0 rfl (by kernel_rfl) (.inl ⟨by rfl, ?_⟩) hHeld ?_
      rotate_left
      · intro w hSw; replace hSw : Sg351_0 w := hSw; rw [HSg351_0.out] at hSw; (try dsimp only at hSw); first | (go_simp; done) | (go_simp; with_reducible rfl)
      try simp only [Act.put, List.setIfInBounds_toArray, List.set_cons_zero, List.set_cons_succ]
      refine heldp_take (v := ?_) 6 0 rfl (by kernel_rfl) (.inl ⟨by rfl, ?_⟩) hHeld ?_
      rotate_left
      · intro w hSw; replace hSw : Sg351_0 w := hSw; rw [HSg351_0.out] at hSw; (try dsimp only at hSw); first | (go_simp; done) | (go_simp; with_reducible rfl)
      try simp only [Act.put, List.setIfInBounds_toArray, List.set_cons_zero, List.set_cons_succ]
      refine heldp_take (v := ?_) 7 0 rfl (by kernel_rfl) (.inl ⟨by rfl, ?_⟩) hHeld ?_
      rotate_left
      · intro w hSw; replace hSw : Sg351_0 w := hSw; rw [HSg351_0.out] at hSw; (try dsimp only at hSw); first | (go_simp; done) | (go_simp; with_reducible rfl)
      try simp only [Act.put, List.setIfInBounds_toArray, List.set_cons_zero, List.set_cons_succ]
      refine heldp_take (v := ?_) 8 0 rfl (by kernel_rfl) (.inl ⟨by rfl, ?_⟩) hHeld ?_
      rotate_left
      · intro w hSw; replace hSw : Sg351_0 w := hSw; rw [HSg351_0.out] at hSw; (try dsimp only at hSw); first | (go_simp; done) | (go_simp; with_reducible rfl)
      try simp only [Act.put, List.setIfInBounds_toArray, List.set_cons_zero, List.set_cons_succ]
      refine heldp_take (v := ?_) 9 0 rfl (by kernel_rfl) (.inl ⟨by rfl, ?_⟩) hHeld ?_
      rotate_left
      · intro w hSw; replace hSw : Sg351_0 w := hSw; rw [HSg351_0.out] at hSw; (try dsimp only at hSw); first | (go_simp; done) | (go_simp; with_reducible rfl)
      try simp only [Act.put, List.setIfInBounds_toArray, List.set_cons_zero, List.set_cons_succ]
      refine heldp_take (v := ?_) 10 0 rfl (by kernel_rfl) (.inl ⟨by rfl, ?_⟩) hHeld ?_
      rotate_left
      · intro w hSw; replace hSw : Sg351_0 w := hSw; rw [HSg351_0.out] at hSw; (try dsimp only at hSw); first | (go_simp; done) | (go_simp; with_reducible rfl)
      try simp only [Act.put, List.setIfInBounds_toArray, List.set_cons_zero, List.set_cons_succ]
      refine heldp_take (v := ?_) 11 0 rfl (by kernel_rfl) (.inl ⟨by rfl, ?_⟩) hHeld ?_
      rotate_left
      · intro w hSw; replace hSw : Sg351_0 w := hSw; rw [HSg351_0.out] at hSw; (try dsimp only at hSw); first | (go_simp; done) | (go_simp; with_reducible rfl)
      try simp only [Act.put, List.setIfInBounds_toArray, List.set_cons_zero, List.set_cons_succ]
      refine heldp_call 12 0 rfl (by kernel_rfl) (fun K hK => ?_)
      go_simp
      have hlit := mp_lit1 wc 60 f c
      obtain ⟨gd, hgd⟩ : ∃ x, wc.heap.size = x := ⟨_, rfl⟩
      have hfa : Fr no wc (wc.alloc (.cells #[.int .i64 f, .int .i64 c] 60)) := (Fr.refl no wc).alloc _
      obtain ⟨wc, hwc⟩ : ∃ x, wc.alloc (.cells #[.int .i64 f, .int .i64 c] 60) = x := ⟨_, rfl⟩
      rw [hgd, hwc]
      rw [hgd, hwc] at hlit
      rw [hwc] at hfa
      replace HF := Lib.hid (HF.out.trans' hfa)
      have D := Lib.hid hlit
      clear hlit hfa hwc hgd
      refine hK.out _ _ ?_ (fun hHeld' => ?_)
      · show Sg351_0 _; rw [HSg351_0.out]; first | exact S6.out | exact ⟨HF.out.cell h0 (fun f => f), HF.out.cell h1 (fun f => f)⟩
      clear hK K hHeld
      have hHeld := hHeld'
      clear hHeld'
      try simp only [Act.put, List.setIfInBounds_toArray, List.set_cons_zero, List.set_cons_succ]
      refine heldp_call 13 0 rfl (by kernel_rfl) (fun K hK => ?_)
      rw [if_pos (by rfl)]
      have HO3 := Lib.hid (HO2.out.step HF.out)
      obtain ⟨v', w6, hrun, hs6, hf6, ho6, _⟩ := run_append_all (P := Tryd.prog) wc 25 25 60 j0 _ 2 16 Tryd.underlying25 hj0 jz0 jz1 jz2 rfl (by decide) _ _ _ HO3.out.sl _ _ _ D.out (by simp [Value.oneCell']) (by unfold maxLen; omega) (by omega)
      obtain ⟨ao6, cap6, rfl, _, _⟩ := hs6.cap
      refine wp_append rfl rfl rfl hrun ?_
      have HO6 := Lib.hid (HO3.out.app hs6 hf6 (by simpa using ho6))
      rw [← Htk.out] at HO6
      have S6 := Lib.hid (And.intro (hf6.cell (p := ⟨g, off + k * 2, none⟩) (HF.out.cell h0 (fun f => f)) hgk) (hf6.cell (p := ⟨g, off + k * 2 + 1, none⟩) (HF.out.cell h1 (fun f => f)) hgk))
      clear hs6 hf6 ho6 hrun D HO3
      refine hK.out _ _ ?_ (fun hHeld' => ?_)
      · show Sg351_0 _; rw [HSg351_0.out]; first | exact S6.out | exact ⟨HF.out.cell h0 (fun f => f), HF.out.cell h1 (fun f => f)⟩
      clear hK K hHeld
      have hHeld := hHeld'
      clear hHeld'
      try simp only [Act.put, List.setIfInBounds_toArray, List.set_cons_zero, List.set_cons_succ]
      refine heldp_take (v := ?_) 14 0 rfl (by kernel_rfl) (.inl ⟨by rfl, ?_⟩) hHeld ?_
      rotate_left
      · intro w hSw; replace hSw : Sg351_0 w := hSw; rw [HSg351_0.out] at hSw; (try dsimp only at hSw); first | (go_simp; done) | (go_simp; with_reducible rfl)
      try simp only [Act.put, List.setIfInBounds_toArray, List.set_cons_zero, List.set_cons_succ]
      refine heldp_done (by kernel_rfl) ?_
      try clear hHeld
      clear HSg351_0
      try clear Sg351_0
      clear HO2 HF h0 h1 hj0 jz0 jz1 jz2 S6 hgk
      go_wp2
      go_roundw
      case rel => exact ⟨k + 1, ao6, cap6, by omega, by go_num, rfl, HO6⟩
      case measure => simp [intOf]; omega
    · obtain rfl : k = n := by omega
      have hO2 := hO.out
      rw [List.take_of_length_le (by rw [Hn.out]; exact Nat.le_refl _)] at hO2
      have HO2 := Lib.hid hO2
      clear hO2 hO
      go_wp2
      go_ret
      exact ⟨_, rfl, HO2.out⟩
set_option maxRecDepth 100000 in
set_option maxHeartbeats 2000000 in
theorem law_samemap (v1 v2 : Value) (a b : Mp) (w : World) (h1 : MpAt w v1 a) (h2 : MpAt w v2 b) :
    Calls Tryd.prog 16 #[v1, v2] w fun e w' => e = .returned (.bool (decide (a = b))) ∧ Fr no w w' := by
  obtain ⟨ao1, cap1, rfl, hc1, hm1⟩ := h1.cap
  obtain ⟨ao2, cap2, rfl, hc2, hm2⟩ := h2.cap
  by_cases hne : a.length = b.length
  · have H1 := Lib.hid h1
    have H2 := Lib.hid h2
    clear h1 h2
    generalize ha : a.length = n at *
    generalize hb : b.length = m at *
    subst hne
    have Ha := Lib.hid ha
    have Hb := Lib.hid hb
    clear ha hb
    go_enter Tryd.func16, Tryd.ntmps16
    go_wp2_with fail
    go_loopw [5] (fun jv wr => ∃ (j : Nat), j ≤ n ∧ jv = .int .i64 j ∧ Hid (∀ i : Nat, i < j → a[i]? = b[i]?) ∧ Hid (Fr no w wr)) (fun jv _ => n - (intOf jv).toNat)
    case atStart => exact ⟨0, Nat.zero_le _, rfl, Lib.hid (fun j h => by omega), Lib.hid (Fr.refl _ _)⟩
    case round =>
      obtain ⟨j, hj, rfl, hC, hF⟩ := hrel
      by_cases hlt : j < n
      · obtain ⟨x, hxk⟩ : ∃ x, a[j]? = some x := ⟨a[j]'(by rw [Ha.out]; exact hlt), by simp⟩
        obtain ⟨y, hyk⟩ : ∃ y, b[j]? = some y := ⟨b[j]'(by rw [Hb.out]; exact hlt), by simp⟩
        obtain ⟨g, off, c', he, x0, x1⟩ := mp_cells (w := wr) (v := .slice ao1 n cap1) (m := a) (by have := H1.out.fr hF.out (fun _ _ _ f => f); rwa [← Ha.out] at this ⊢) hxk
        rw [Ha.out] at he
        cases he
        obtain ⟨g2, off2, c2', he2, y0, y1⟩ := mp_cells (w := wr) (v := .slice ao2 n cap2) (m := b) (by have := H2.out.fr hF.out (fun _ _ _ f => f); rwa [← Hb.out] at this ⊢) hyk
        rw [Hb.out] at he2
        cases he2
        have Hxk := Lib.hid hxk
        have Hyk := Lib.hid hyk
        clear hxk hyk
        by_cases hxy : x = y
        · subst hxy
          go_wp2
          go_quiet (fail)
          go_wp2
          go_roundw
          case rel => exact ⟨j + 1, by omega, by go_num, Lib.hid (fun t ht => by rcases Nat.lt_succ_iff_lt_or_eq.1 ht with h | rfl <;> first | exact hC.out t h | rw [Hxk.out, Hyk.out]), Lib.hid (hF.out.drewN _)⟩
          case measure => simp [intOf]; omega
        · have e1 : decide (a = b) = false := by
            rw [decide_eq_false_iff_not]; intro e
            have e1 := Hxk.out; rw [e, Hyk.out] at e1; exact hxy (by cases e1; rfl)
          obtain ⟨xf, xc⟩ := x
          obtain ⟨yf, yc⟩ := y
          dsimp only at x0 x1 y0 y1
          have hway : (¬ xf = yf) ∨ (xf = yf ∧ ¬ xc = yc) := by
            by_cases h : xf = yf
            · exact .inr ⟨h, fun h2 => hxy (by rw [h, h2])⟩
            · exact .inl h
          have E1 := Lib.hid e1
          clear e1 hxy
          rcases hway with h | ⟨rfl, h⟩
          · have h2 : (xf == yf) = false := by rw [beq_eq_false_iff_ne]; exact h
            go_wp2
            go_quiet (fail)
            go_wp2
            go_ret
            rw [E1.out]
            exact ⟨rfl, hF.out.drewN _⟩
          · have h2 : (xc == yc) = false := by rw [beq_eq_false_iff_ne]; exact h
            go_wp2
            go_quiet (fail)
            go_wp2
            go_ret
            rw [E1.out]
            exact ⟨rfl, hF.out.drewN _⟩
      · obtain rfl : j = n := by omega
        go_wp2
        go_ret
        have e1 : decide (a = b) = true := by
          rw [decide_eq_true_iff]
          apply List.ext_getElem?
          intro i
          by_cases hi : i < j
          · exact hC.out i hi
          · rw [List.getElem?_eq_none (by rw [Ha.out]; omega), List.getElem?_eq_none (by rw [Hb.out]; omega)]
        rw [e1]
        exact ⟨rfl, hF.out⟩
  · have e1 : decide (a = b) = false := by rw [decide_eq_false_iff_not]; intro e; exact hne (by rw [e])
    rw [e1]
    clear h1 h2 e1
    have hne' : ¬ (a.length : Int) = b.length := by omega
    go_enter Tryd.func16, Tryd.ntmps16
    go_wp2
    go_ret
    exact ⟨rfl, Fr.refl _ _⟩
end Go.Proofs.YtkdcldnbdhfobaaDoor
