/- Package stripe: Text. -/
import Derived.Test.YtkdcldnbdhfobaaDoorMp2
import Derived.Test.YtkdcldnbdhfobaaDoorJoin
namespace Go.XL
open Go.RowKit Go.Shelf
set_option linter.unusedVariables false
set_option linter.unusedSimpArgs false
def mword (x : Int × Int) : List UInt8 := Lib.itoa x.1 ++ 47 :: Lib.itoa x.2
def mtext (m : Mp) : List UInt8 := wjoin (m.map mword)
/-- numbers of 64 bits -/
def Mp64 (m : Mp) : Prop := ∀ x ∈ m, (-9223372036854775808 ≤ x.1 ∧ x.1 ≤ 9223372036854775807) ∧ (-9223372036854775808 ≤ x.2 ∧ x.2 ≤ 9223372036854775807)
theorem mword_len {x : Int × Int} (h : (-9223372036854775808 ≤ x.1 ∧ x.1 ≤ 9223372036854775807) ∧ (-9223372036854775808 ≤ x.2 ∧ x.2 ≤ 9223372036854775807)) : (mword x).length ≤ 45 := by
  have h1 := itoa_len x.1 h.1.1 h.1.2
  have h2 := itoa_len x.2 h.2.1 h.2.2
  unfold mword
  rw [List.length_append, List.length_cons]
  omega
theorem mtext_len {m : Mp} (h : Mp64 m) : (mtext m).length ≤ 46 * m.length := by
  have := wjoin_len' 45 (m.map mword) (fun w hw => by
    obtain ⟨x, hx, rfl⟩ := List.mem_map.1 hw
    exact mword_len (h x hx))
  rwa [List.length_map] at this
theorem mword_str (x : Int × Int) : Value.string ((⟨(Lib.itoa x.1).toArray⟩ : ByteArray) ++ ⟨#[47]⟩ ++ ⟨(Lib.itoa x.2).toArray⟩) = strv (mword x) := by
  unfold strv mword
  exact congrArg Value.string (ByteArray.ext (by simp))
end Go.XL
namespace Go.Proofs.YtkdcldnbdhfobaaDoor
open Go.RowKit Go.Shelf Go.XL
set_option linter.unusedVariables false
set_option linter.unusedSimpArgs false
attribute [local go_sem] Oper.semAt_some
set_option maxRecDepth 100000 in
set_option maxHeartbeats 8000000 in
theorem m_text (v : Value) (m : Mp) (w : World) (h : MpAt w v m) (hm : m.length ≤ 1000) (h64 : Mp64 m) (hG : Gl w) :
    Calls Tryd.prog 17 #[v] w fun e w' => e = .returned (.string ⟨(mtext m).toArray⟩) ∧ Fr no w w' := by
  obtain ⟨ao, cap, rfl, hcap, hmx⟩ := h.cap
  have H := Lib.hid h
  have H64 := Lib.hid h64
  have HG := Lib.hid hG
  clear h h64 hG
  obtain ⟨j0, hj0, jz0, jz1, jz2⟩ := info_parts (show (Tryd.prog.info? 9).map (fun i => (i.zero, i.size, i.bytes)) = some (some (.string ⟨#[]⟩), 1, 16) by kernel_rfl)
  generalize hn : m.length = n at *
  have Hn := Lib.hid hn
  clear hn
  go_enter Tryd.func17, Tryd.ntmps17
  go_wp2_with fail
  go_loopw [3, 8] (fun ov iv wr => ∃ (k : Nat) (bo : Option Addr) (bc : Nat), k ≤ n ∧ iv = .int .i64 k ∧ ov = .slice bo k bc ∧ Hid (Ow w wr 9 1 (.slice bo k bc) k ((m.take k).map fun x => strv (mword x)))) (fun _ iv _ => n - (intOf iv).toNat)
  case atStart => exact ⟨0, none, 0, Nat.zero_le _, rfl, rfl, Lib.hid (Ow.nil (Fr.refl _ _) _ _)⟩
  case round =>
    obtain ⟨k, bo, bc, hk, rfl, rfl, hO⟩ := hrel
    generalize wr = W at *
    by_cases hlt : k < n
    · obtain ⟨x, hxk⟩ : ∃ x, m[k]? = some x := ⟨m[k]'(by rw [Hn.out]; exact hlt), by simp⟩
      have hm64 := H64.out x (List.mem_of_getElem? hxk)
      have hGW := HG.out.fr hO.out.fr
      obtain ⟨g, off, c', he, h0, h1⟩ := mp_cells (w := W) (v := .slice ao n cap) (m := m) (by have := H.out.fr hO.out.fr (fun _ _ _ f => f); rwa [← Hn.out] at this ⊢) hxk
      rw [Hn.out] at he
      cases he
      have htk : (m.take (k + 1)).map (fun x => strv (mword x)) = (m.take k).map (fun x => strv (mword x)) ++ [strv (mword x)] := by rw [List.take_add_one, hxk]; simp
      rw [← mword_str x] at htk
      have Htk := Lib.hid htk
      obtain ⟨f, c⟩ := x
      dsimp only at h0 h1 hm64 Htk
      obtain ⟨r0, hr0⟩ : ∃ r : ByteArray, ⟨(Lib.itoa f).toArray⟩ = r := ⟨_, rfl⟩
      obtain ⟨r1, hr1⟩ : ∃ r : ByteArray, ⟨(Lib.itoa c).toArray⟩ = r := ⟨_, rfl⟩
      have hi0 : ∀ U, Fr no W U → Calls Tryd.prog 25 #[.int .i64 f] U fun e w' => e = .returned (.string r0) ∧ Fr no U w' := fun U hU => by rw [← hr0]; exact s_itoa f hm64.1.1 hm64.1.2 U (hGW.fr hU)
      have hi1 : ∀ U, Fr no W U → Calls Tryd.prog 25 #[.int .i64 c] U fun e w' => e = .returned (.string r1) ∧ Fr no U w' := fun U hU => by rw [← hr1]; exact s_itoa c hm64.2.1 hm64.2.2 U (hGW.fr hU)
      rw [hr0, hr1] at Htk
      have hs0 : r0.size ≤ 22 := by rw [← hr0]; show (Lib.itoa f).toArray.size ≤ 22; have := itoa_len f hm64.1.1 hm64.1.2; simpa using this
      have hs1 : r1.size ≤ 22 := by rw [← hr1]; show (Lib.itoa c).toArray.size ≤ 22; have := itoa_len c hm64.2.1 hm64.2.2; simpa using this
      have hz0 : ¬ 9223372036854775807 < r0.size + 1 := by omega
      have hz1 : ¬ 9223372036854775807 < r0.size + 1 + r1.size := by omega
      have Hi0 := Lib.hid hi0
      have Hi1 := Lib.hid hi1
      clear hi0 hi1 htk hxk hm64 hGW hr0 hr1
      obtain ⟨V, hV⟩ : ∃ V, W.alloc (.cells #[.int .i64 f, .int .i64 c] 48) = V := ⟨_, rfl⟩
      have hFV : Fr no W V := by rw [← hV]; exact (Fr.refl no W).alloc _
      have hbv : V.heap[W.heap.size]? = some (.cells #[.int .i64 f, .int .i64 c] 48 (0, 0)) := by rw [← hV]; exact World.alloc_heap_new _ _
      have b0 : V.cell? ⟨W.heap.size, 0, none⟩ = some (.int .i64 f) := cell_of_block hbv rfl
      have b1 : V.cell? ⟨W.heap.size, 1, none⟩ = some (.int .i64 c) := cell_of_block hbv rfl
      have HV := Lib.hid hV
      have HFV := Lib.hid hFV
      have HO2 := Lib.hid (hO.out.step hFV)
      have hne : ¬ (Value.slice bo k bc).ownBlock = some W.heap.size := fun e => by have := hO.out.sl.lt _ e; omega
      clear hbv hV hFV
      go_upto_region 5 with (fail)
      rw [HV.out]
      clear HV h0 h1 hO
      obtain ⟨Sg88_0, HSg88_0⟩ : ∃ S : World → Prop, Hid (S = (fun w' => w'.cell? ⟨W.heap.size, 0, none⟩ = some (.int .i64 f) ∧ w'.cell? ⟨W.heap.size, 1, none⟩ = some (.int .i64 c))) := ⟨_, Lib.hid rfl⟩
      refine wp_heldp [] (pickS [Sg88_0]) (by kernel_rfl) ?_ (fun hHeld => ?_)
      · show Sg88_0 _; rw [HSg88_0.out]; exact ⟨b0, b1⟩
      obtain ⟨wc, hwc⟩ : ∃ x, V.drew = x := ⟨_, rfl⟩; rw [hwc] at hHeld; rw [hwc]; have HF : Hid (Fr no V wc) := (by rw [← hwc]; exact Lib.hid ((Fr.refl no V).drewN 1)); clear hwc
      refine heldp_take (v := ?_) 0 0 rfl (by kernel_rfl) (.inl ⟨by rfl, ?_⟩) hHeld ?_
      rotate_left
      · intro w hSw; replace hSw : Sg88_0 w := hSw; rw [HSg88_0.out] at hSw; (try dsimp only at hSw); first | (go_simp; done) | (go_simp; with_reducible rfl)
      try simp only [Act.put, List.setIfInBounds_toArray, List.set_cons_zero, List.set_cons_succ]
      refine heldp_take (v := ?_) 1 0 rfl (by kernel_rfl) (.inl ⟨by rfl, ?_⟩) hHeld ?_
      rotate_left
      · intro w hSw; replace hSw : Sg88_0 w := hSw; rw [HSg88_0.out] at hSw; (try dsimp only at hSw); first | (go_simp; done) | (go_simp; with_reducible rfl)
      try simp only [Act.put, List.setIfInBounds_toArray, List.set_cons_zero, List.set_cons_succ]
      refine heldp_take (v := ?_) 2 0 rfl (by kernel_rfl) (.inl ⟨by rfl, ?_⟩) hHeld ?_
      rotate_left
      · intro w hSw; replace hSw : Sg88_0 w := hSw; rw [HSg88_0.out] at hSw; (try dsimp only at hSw); first | (go_simp; done) | (go_simp; with_reducible rfl)
      try simp only [Act.put, List.setIfInBounds_toArray, List.set_cons_zero, List.set_cons_succ]
      refine heldp_take (v := ?_) 5 0 rfl (by kernel_rfl) (.inl ⟨by rfl, ?_⟩) hHeld ?_
      rotate_left
      · intro w hSw; replace hSw : Sg88_0 w := hSw; rw [HSg88_0.out] at hSw; (try dsimp only at hSw); first | (go_simp; done) | (go_simp; with_reducible rfl)
      try simp only [Act.put, List.setIfInBounds_toArray, List.set_cons_zero, List.set_cons_succ]
      refine heldp_take (v := ?_) 6 0 rfl (by kernel_rfl) (.inl ⟨by rfl, ?_⟩) hHeld ?_
      rotate_left
      · intro w hSw; replace hSw : Sg88_0 w := hSw; rw [HSg88_0.out] at hSw; (try dsimp only at hSw); first | (go_simp; done) | (go_simp; with_reducible rfl)
      try simp only [Act.put, List.setIfInBounds_toArray, List.set_cons_zero, List.set_cons_succ]
      refine heldp_call 3 0 rfl (by kernel_rfl) (fun K hK => ?_)
      go_simp
      go_at_call 25
      refine (Hi0.out _ (HFV.out.trans' HF.out)).mono ?_
      rintro e wc ⟨rfl, hfd⟩
      replace HF := Lib.hid (HF.out.trans' hfd)
      clear hfd
      refine hK.out _ _ ?_ (fun hHeld' => ?_)
      · show Sg88_0 _; rw [HSg88_0.out]; first | exact S6.out | exact ⟨HF.out.cell b0 (fun f => f), HF.out.cell b1 (fun f => f)⟩
      clear hK K hHeld
      have hHeld := hHeld'
      clear hHeld'
      try simp only [Act.put, List.setIfInBounds_toArray, List.set_cons_zero, List.set_cons_succ]
      refine heldp_take (v := ?_) 4 0 rfl (by kernel_rfl) (.inl ⟨by rfl, ?_⟩) hHeld ?_
      rotate_left
      · intro w hSw; replace hSw : Sg88_0 w := hSw; rw [HSg88_0.out] at hSw; (try dsimp only at hSw); first | (go_simp; done) | (go_simp; with_reducible rfl)
      try simp only [Act.put, List.setIfInBounds_toArray, List.set_cons_zero, List.set_cons_succ]
      refine heldp_call 7 0 rfl (by kernel_rfl) (fun K hK => ?_)
      go_simp
      go_at_call 25
      refine (Hi1.out _ (HFV.out.trans' HF.out)).mono ?_
      rintro e wc ⟨rfl, hfd⟩
      replace HF := Lib.hid (HF.out.trans' hfd)
      clear hfd
      refine hK.out _ _ ?_ (fun hHeld' => ?_)
      · show Sg88_0 _; rw [HSg88_0.out]; first | exact S6.out | exact ⟨HF.out.cell b0 (fun f => f), HF.out.cell b1 (fun f => f)⟩
      clear hK K hHeld
      have hHeld := hHeld'
      clear hHeld'
      try simp only [Act.put, List.setIfInBounds_toArray, List.set_cons_zero, List.set_cons_succ]
      refine heldp_take (v := ?_) 8 0 rfl (by kernel_rfl) (.inl ⟨by rfl, ?_⟩) hHeld ?_
      rotate_left
      · intro w hSw; replace hSw : Sg88_0 w := hSw; rw [HSg88_0.out] at hSw; (try dsimp only at hSw); first | (go_simp; done) | (go_simp; with_reducible rfl)
      try simp only [Act.put, List.setIfInBounds_toArray, List.set_cons_zero, List.set_cons_succ]
      refine heldp_call 9 0 rfl (by kernel_rfl) (fun K hK => ?_)
      go_simp
      have hlit := rd_lit wc 9 [.string (r0 ++ ⟨#[47]⟩ ++ r1)] (by simp)
      obtain ⟨gd, hgd⟩ : ∃ x, wc.heap.size = x := ⟨_, rfl⟩
      have hfa : Fr no wc (wc.alloc (.cells #[.string (r0 ++ ⟨#[47]⟩ ++ r1)] 9)) := (Fr.refl no wc).alloc _
      obtain ⟨wc, hwc⟩ : ∃ x, wc.alloc (.cells #[.string (r0 ++ ⟨#[47]⟩ ++ r1)] 9) = x := ⟨_, rfl⟩
      rw [hgd, hwc]
      rw [hgd] at hlit
      have hlit2 : Rd wc 1 (.slice (some ⟨gd, 0, none⟩) 1 1) 1 [.string (r0 ++ ⟨#[47]⟩ ++ r1)] := by rw [← hwc]; exact hlit
      rw [hwc] at hfa
      replace HF := Lib.hid (HF.out.trans' hfa)
      have D := Lib.hid hlit2
      clear hlit hlit2 hfa hwc hgd
      refine hK.out _ _ ?_ (fun hHeld' => ?_)
      · show Sg88_0 _; rw [HSg88_0.out]; first | exact S6.out | exact ⟨HF.out.cell b0 (fun f => f), HF.out.cell b1 (fun f => f)⟩
      clear hK K hHeld
      have hHeld := hHeld'
      clear hHeld'
      try simp only [Act.put, List.setIfInBounds_toArray, List.set_cons_zero, List.set_cons_succ]
      refine heldp_call 10 0 rfl (by kernel_rfl) (fun K hK => ?_)
      rw [if_pos (by rfl)]
      have HO3 := Lib.hid (HO2.out.step HF.out)
      obtain ⟨v', w6, hrun, hs6, hf6, ho6, _⟩ := run_append_all (P := Tryd.prog) wc 62 62 9 j0 _ 1 16 Tryd.underlying62 hj0 jz0 jz1 jz2 rfl (by decide) _ _ _ HO3.out.sl _ _ _ D.out (by simp [Value.oneCell']) (by unfold maxLen; omega) (by omega)
      obtain ⟨ao6, cap6, rfl, _, _⟩ := hs6.cap
      refine wp_append rfl rfl rfl hrun ?_
      have HO6 := Lib.hid (HO3.out.app hs6 hf6 (by simpa using ho6))
      rw [← Htk.out] at HO6
      have S6 := Lib.hid (And.intro (hf6.cell (p := ⟨W.heap.size, 0, none⟩) (HF.out.cell b0 (fun f => f)) hne) (hf6.cell (p := ⟨W.heap.size, 1, none⟩) (HF.out.cell b1 (fun f => f)) hne))
      clear hs6 hf6 ho6 hrun D HO3
      refine hK.out _ _ ?_ (fun hHeld' => ?_)
      · show Sg88_0 _; rw [HSg88_0.out]; first | exact S6.out | exact ⟨HF.out.cell b0 (fun f => f), HF.out.cell b1 (fun f => f)⟩
      clear hK K hHeld
      have hHeld := hHeld'
      clear hHeld'
      try simp only [Act.put, List.setIfInBounds_toArray, List.set_cons_zero, List.set_cons_succ]
      refine heldp_take (v := ?_) 11 0 rfl (by kernel_rfl) (.inl ⟨by rfl, ?_⟩) hHeld ?_
      rotate_left
      · intro w hSw; replace hSw : Sg88_0 w := hSw; rw [HSg88_0.out] at hSw; (try dsimp only at hSw); first | (go_simp; done) | (go_simp; with_reducible rfl)
      try simp only [Act.put, List.setIfInBounds_toArray, List.set_cons_zero, List.set_cons_succ]
      refine heldp_done (by kernel_rfl) ?_
      try clear hHeld
      clear HSg88_0
      try clear Sg88_0
      clear HO2 HF b0 b1 hj0 jz0 jz1 jz2 S6 hne
      go_wp2
      go_roundw
      case rel => exact ⟨k + 1, ao6, cap6, by omega, by go_num, rfl, HO6⟩
      case measure => simp [intOf]; omega
    · obtain rfl : k = n := by omega
      have e1 : m.take k = m := List.take_of_length_le (by rw [Hn.out]; exact Nat.le_refl _)
      have hO2 := hO.out
      rw [e1] at hO2
      have hj := s_join (m.map mword) (.slice bo k bc) w W (by rw [List.length_map, Hn.out, List.map_map]; exact hO2) (by have := mtext_len H64.out; rw [Hn.out] at this; unfold mtext at this; omega) (by rw [List.length_map, Hn.out]; omega)
      have Hj := Lib.hid hj
      clear hj e1 hO2
      go_wp2_with fail
      refine Hj.out.mono ?_
      rintro e W2 ⟨rfl, hf⟩
      go_wp2
      go_ret
      exact ⟨rfl, hO.out.fr.trans' hf⟩
end Go.Proofs.YtkdcldnbdhfobaaDoor
