/- Package rec: Text; the reference's RecText. -/
import Derived.Test.YtgcjnhocoklfbaaGreatDoorRc1
import Derived.Test.YtgcjnhocoklfbaaGreatDoorRefT
import Derived.Test.YtgcjnhocoklfbaaGreatDoorHeld2
namespace Go.XL
open Go.RowKit Go.Shelf
set_option linter.unusedVariables false
set_option linter.unusedSimpArgs false
def rtext (s q : Int) (dep : List Int) (key val : List UInt8) : List UInt8 := Lib.itoa s ++ 58 :: (Lib.itoa q ++ 32 :: (vtext dep ++ 32 :: (key ++ 61 :: val)))
def Rc.text (r : Rc) : List UInt8 := rtext r.s r.q r.dep r.key.data.toList r.val.data.toList
theorem rtext_str (a b c : List UInt8) (key val : ByteArray) : ((((((((⟨a.toArray⟩ : ByteArray) ++ ⟨#[58]⟩) ++ ⟨b.toArray⟩) ++ ⟨#[32]⟩) ++ ⟨c.toArray⟩) ++ ⟨#[32]⟩) ++ key) ++ ⟨#[61]⟩) ++ val = (⟨(a ++ 58 :: (b ++ 32 :: (c ++ 32 :: (key.data.toList ++ 61 :: val.data.toList)))).toArray⟩ : ByteArray) := by
  apply ByteArray.ext
  simp only [ByteArray.data_append]
  apply Array.ext'
  simp
theorem vtext_lenR {xs : List Int} (h64 : I64s xs) : (vtext xs).length ≤ 23 * xs.length + 2 := by
  unfold vtext
  have h1 := wjoin_len ((xs.take (vlast xs)).map Lib.itoa) (fun w hw => by
    obtain ⟨x, hx, rfl⟩ := List.mem_map.1 hw
    have := h64 x (List.mem_of_mem_take hx)
    exact itoa_len x this.1 this.2)
  rw [List.length_map, List.length_take] at h1
  simp only [List.length_cons, List.length_append, List.length_nil]
  omega
theorem rtext_len {s q : Int} {dep : List Int} {key val : List UInt8} (h64 : I64s dep) (hs : -9223372036854775808 ≤ s ∧ s ≤ 9223372036854775807) (hq : -9223372036854775808 ≤ q ∧ q ≤ 9223372036854775807) : (rtext s q dep key val).length ≤ 23 * dep.length + key.length + val.length + 50 := by
  have h1 := vtext_lenR h64
  have h2 := itoa_len s hs.1 hs.2
  have h3 := itoa_len q hq.1 hq.2
  unfold rtext
  simp only [List.length_append, List.length_cons]
  omega
end Go.XL
namespace Go.Proofs.YtgcjnhocoklfbaaGreatDoor
open Go.RowKit Go.Shelf Go.XL
set_option linter.unusedVariables false
set_option linter.unusedSimpArgs false
attribute [local go_sem] Oper.semAt_some
set_option maxHeartbeats 2000000 in
theorem r_text (r : Rc) (w : World) (hr : RcOk w r) (h64 : I64s r.dep) (hs : -9223372036854775808 ≤ r.s ∧ r.s ≤ 9223372036854775807) (hq : -9223372036854775808 ≤ r.q ∧ r.q ≤ 9223372036854775807) (hn : r.dep.length ≤ 1000) (hk : r.key.size ≤ 1000000) (hv : r.val.size ≤ 1000000) (hG : Gl w) :
    Calls Tryz.prog 15 #[r.v] w fun e w' => e = .returned (.string ⟨r.text.toArray⟩) ∧ Fr no w w' := by
  obtain ⟨s, q, dv, dep, key, val⟩ := r
  obtain ⟨dO, dc, hdv, hdc, hdm⟩ := Rd.cap hr
  dsimp only at hdv hdc h64 hs hq hn hk hv
  subst hdv
  unfold Rc.v Rc.text
  dsimp only
  obtain ⟨R, hR⟩ : ∃ R : ByteArray, (⟨(rtext s q dep key.data.toList val.data.toList).toArray⟩ : ByteArray) = R := ⟨_, rfl⟩
  rw [hR]
  have hstr := rtext_str (Lib.itoa s) (Lib.itoa q) (vtext dep) key val
  rw [show (⟨(Lib.itoa s ++ 58 :: (Lib.itoa q ++ 32 :: (vtext dep ++ 32 :: (key.data.toList ++ 61 :: val.data.toList)))).toArray⟩ : ByteArray) = R from hR] at hstr
  obtain ⟨t0, ht0⟩ : ∃ t : ByteArray, ⟨(Lib.itoa s).toArray⟩ = t := ⟨_, rfl⟩
  obtain ⟨t1, ht1⟩ : ∃ t : ByteArray, ⟨(Lib.itoa q).toArray⟩ = t := ⟨_, rfl⟩
  obtain ⟨t2, ht2⟩ : ∃ t : ByteArray, ⟨(vtext dep).toArray⟩ = t := ⟨_, rfl⟩
  have z0 : t0.size ≤ 22 := by rw [← ht0]; show (Lib.itoa s).toArray.size ≤ _; simpa using itoa_len s hs.1 hs.2
  have z1 : t1.size ≤ 22 := by rw [← ht1]; show (Lib.itoa q).toArray.size ≤ _; simpa using itoa_len q hq.1 hq.2
  have z2 : t2.size ≤ 23002 := by rw [← ht2]; show (vtext dep).toArray.size ≤ _; have := vtext_lenR h64; simp; omega
  have zz0 : ¬ 9223372036854775807 < t0.size + 1 := by omega
  have zz1 : ¬ 9223372036854775807 < t0.size + 1 + t1.size := by omega
  have zz2 : ¬ 9223372036854775807 < t0.size + 1 + t1.size + 1 := by omega
  have zz3 : ¬ 9223372036854775807 < t0.size + 1 + t1.size + 1 + t2.size := by omega
  have zz4 : ¬ 9223372036854775807 < t0.size + 1 + t1.size + 1 + t2.size + 1 := by omega
  have zz5 : ¬ 9223372036854775807 < t0.size + 1 + t1.size + 1 + t2.size + 1 + key.size := by omega
  have zz6 : ¬ 9223372036854775807 < t0.size + 1 + t1.size + 1 + t2.size + 1 + key.size + 1 := by omega
  have zz7 : ¬ 9223372036854775807 < t0.size + 1 + t1.size + 1 + t2.size + 1 + key.size + 1 + val.size := by omega
  rw [ht0, ht1, ht2] at hstr
  obtain ⟨w1, hw1⟩ : ∃ w1, w.alloc (.cells #[.int .i64 s, .int .i64 q, .slice dO dep.length dc, .string key, .string val] 25) = w1 := ⟨_, rfl⟩
  have hf1 : Fr no w w1 := by rw [← hw1]; exact (Fr.refl no w).alloc _
  have hb1 : w1.heap[w.heap.size]? = some (.cells #[.int .i64 s, .int .i64 q, .slice dO dep.length dc, .string key, .string val] 25 (0, 0)) := by rw [← hw1]; exact World.alloc_heap_new _ _
  have c0 := fun (w' : World) (hf : Fr no w w') => s_itoa s hs.1 hs.2 w' (hG.fr hf)
  have c1 := fun (w' : World) (hf : Fr no w w') => s_itoa q hq.1 hq.2 w' (hG.fr hf)
  have c2 := fun (w' : World) (hf : Fr no w w') => vec_text (.slice dO dep.length dc) dep w' (Rd.fr hr hf (fun _ _ _ f => f)) h64 (by omega) (hG.fr hf)
  rw [ht0] at c0
  rw [ht1] at c1
  rw [ht2] at c2
  have C0 := Lib.hid c0
  have C1 := Lib.hid c1
  have C2 := Lib.hid c2
  have Hstr := Lib.hid hstr
  have HW1 := Lib.hid hw1
  have HF1 := Lib.hid hf1
  clear hR hstr ht0 ht1 ht2 c0 c1 c2 hr h64 hw1 hf1 hG
  generalize dep.length = dn at *
  have b0 : w1.cell? ⟨w.heap.size, 0, none⟩ = some (.int .i64 s) := cell_of_block hb1 rfl
  have b1 : w1.cell? ⟨w.heap.size, 1, none⟩ = some (.int .i64 q) := cell_of_block hb1 rfl
  have b2 : w1.cell? ⟨w.heap.size, 2, none⟩ = some (.slice dO dn dc) := cell_of_block hb1 rfl
  have b3 : w1.cell? ⟨w.heap.size, 3, none⟩ = some (.string key) := cell_of_block hb1 rfl
  have b4 : w1.cell? ⟨w.heap.size, 4, none⟩ = some (.string val) := cell_of_block hb1 rfl
  clear hb1
  go_enter Tryz.func15, Tryz.ntmps15
  go_upto_region 1 with (fail)
  rw [HW1.out]
  clear HW1
  generalize w.heap.size = ga at *
  obtain ⟨Sg93_0, HSg93_0⟩ : ∃ S : World → Prop, Hid (S = (fun w' => w'.cell? ⟨ga, 0, none⟩ = some (.int .i64 s) ∧ w'.cell? ⟨ga, 1, none⟩ = some (.int .i64 q) ∧ w'.cell? ⟨ga, 2, none⟩ = some (.slice dO dn dc) ∧ w'.cell? ⟨ga, 3, none⟩ = some (.string key) ∧ w'.cell? ⟨ga, 4, none⟩ = some (.string val))) := ⟨_, Lib.hid rfl⟩
  refine wp_heldp [] (pickS [Sg93_0]) (by kernel_rfl) ?_ (fun hHeld => ?_)
  · show Sg93_0 _; rw [HSg93_0.out]; exact ⟨b0, b1, b2, b3, b4⟩
  obtain ⟨wc, hwc⟩ : ∃ x, w1.drew = x := ⟨_, rfl⟩; rw [hwc] at hHeld; rw [hwc]; have HF : Hid (Fr no w1 wc) := (by rw [← hwc]; exact Lib.hid ((Fr.refl no w1).drewN 1)); clear hwc
  refine heldp_take (v := ?_) 0 0 rfl (by kernel_rfl) (.inl ⟨by rfl, ?_⟩) hHeld ?_
  rotate_left
  · intro w hSw; replace hSw : Sg93_0 w := hSw; rw [HSg93_0.out] at hSw; (try dsimp only at hSw); first | (go_simp; done) | (go_simp; with_reducible rfl)
  try simp only [Act.put, List.setIfInBounds_toArray, List.set_cons_zero, List.set_cons_succ]
  refine heldp_take (v := ?_) 1 0 rfl (by kernel_rfl) (.inl ⟨by rfl, ?_⟩) hHeld ?_
  rotate_left
  · intro w hSw; replace hSw : Sg93_0 w := hSw; rw [HSg93_0.out] at hSw; (try dsimp only at hSw); first | (go_simp; done) | (go_simp; with_reducible rfl)
  try simp only [Act.put, List.setIfInBounds_toArray, List.set_cons_zero, List.set_cons_succ]
  refine heldp_take (v := ?_) 4 0 rfl (by kernel_rfl) (.inl ⟨by rfl, ?_⟩) hHeld ?_
  rotate_left
  · intro w hSw; replace hSw : Sg93_0 w := hSw; rw [HSg93_0.out] at hSw; (try dsimp only at hSw); first | (go_simp; done) | (go_simp; with_reducible rfl)
  try simp only [Act.put, List.setIfInBounds_toArray, List.set_cons_zero, List.set_cons_succ]
  refine heldp_take (v := ?_) 5 0 rfl (by kernel_rfl) (.inl ⟨by rfl, ?_⟩) hHeld ?_
  rotate_left
  · intro w hSw; replace hSw : Sg93_0 w := hSw; rw [HSg93_0.out] at hSw; (try dsimp only at hSw); first | (go_simp; done) | (go_simp; with_reducible rfl)
  try simp only [Act.put, List.setIfInBounds_toArray, List.set_cons_zero, List.set_cons_succ]
  refine heldp_take (v := ?_) 9 0 rfl (by kernel_rfl) (.inl ⟨by rfl, ?_⟩) hHeld ?_
  rotate_left
  · intro w hSw; replace hSw : Sg93_0 w := hSw; rw [HSg93_0.out] at hSw; (try dsimp only at hSw); first | (go_simp; done) | (go_simp; with_reducible rfl)
  try simp only [Act.put, List.setIfInBounds_toArray, List.set_cons_zero, List.set_cons_succ]
  refine heldp_take (v := ?_) 10 0 rfl (by kernel_rfl) (.inl ⟨by rfl, ?_⟩) hHeld ?_
  rotate_left
  · intro w hSw; replace hSw : Sg93_0 w := hSw; rw [HSg93_0.out] at hSw; (try dsimp only at hSw); first | (go_simp; done) | (go_simp; with_reducible rfl)
  try simp only [Act.put, List.setIfInBounds_toArray, List.set_cons_zero, List.set_cons_succ]
  refine heldp_take (v := ?_) 14 0 rfl (by kernel_rfl) (.inl ⟨by rfl, ?_⟩) hHeld ?_
  rotate_left
  · intro w hSw; replace hSw : Sg93_0 w := hSw; rw [HSg93_0.out] at hSw; (try dsimp only at hSw); first | (go_simp; done) | (go_simp; with_reducible rfl)
  try simp only [Act.put, List.setIfInBounds_toArray, List.set_cons_zero, List.set_cons_succ]
  refine heldp_take (v := ?_) 15 0 rfl (by kernel_rfl) (.inl ⟨by rfl, ?_⟩) hHeld ?_
  rotate_left
  · intro w hSw; replace hSw : Sg93_0 w := hSw; rw [HSg93_0.out] at hSw; (try dsimp only at hSw); first | (go_simp; done) | (go_simp; with_reducible rfl)
  try simp only [Act.put, List.setIfInBounds_toArray, List.set_cons_zero, List.set_cons_succ]
  refine heldp_take (v := ?_) 18 0 rfl (by kernel_rfl) (.inl ⟨by rfl, ?_⟩) hHeld ?_
  rotate_left
  · intro w hSw; replace hSw : Sg93_0 w := hSw; rw [HSg93_0.out] at hSw; (try dsimp only at hSw); first | (go_simp; done) | (go_simp; with_reducible rfl)
  try simp only [Act.put, List.setIfInBounds_toArray, List.set_cons_zero, List.set_cons_succ]
  refine heldp_take (v := ?_) 19 0 rfl (by kernel_rfl) (.inl ⟨by rfl, ?_⟩) hHeld ?_
  rotate_left
  · intro w hSw; replace hSw : Sg93_0 w := hSw; rw [HSg93_0.out] at hSw; (try dsimp only at hSw); first | (go_simp; done) | (go_simp; with_reducible rfl)
  try simp only [Act.put, List.setIfInBounds_toArray, List.set_cons_zero, List.set_cons_succ]
  refine heldp_call 2 0 rfl (by kernel_rfl) (fun K hK => ?_)
  go_simp
  go_at_call 32
  refine (C0.out _ (HF1.out.trans' HF.out)).mono ?_
  rintro e wc ⟨rfl, hfd⟩
  replace HF := Lib.hid (HF.out.trans' hfd)
  clear hfd
  refine hK.out _ _ ?_ (fun hHeld' => ?_)
  · show Sg93_0 _; rw [HSg93_0.out]; exact ⟨HF.out.cell b0 (fun f => f), HF.out.cell b1 (fun f => f), HF.out.cell b2 (fun f => f), HF.out.cell b3 (fun f => f), HF.out.cell b4 (fun f => f)⟩
  clear hK K hHeld
  have hHeld := hHeld'
  clear hHeld'
  try simp only [Act.put, List.setIfInBounds_toArray, List.set_cons_zero, List.set_cons_succ]
  refine heldp_take (v := ?_) 3 0 rfl (by kernel_rfl) (.inl ⟨by rfl, ?_⟩) hHeld ?_
  rotate_left
  · intro w hSw; replace hSw : Sg93_0 w := hSw; rw [HSg93_0.out] at hSw; (try dsimp only at hSw); first | (go_simp; done) | (go_simp; with_reducible rfl)
  try simp only [Act.put, List.setIfInBounds_toArray, List.set_cons_zero, List.set_cons_succ]
  refine heldp_call 6 0 rfl (by kernel_rfl) (fun K hK => ?_)
  go_simp
  go_at_call 32
  refine (C1.out _ (HF1.out.trans' HF.out)).mono ?_
  rintro e wc ⟨rfl, hfd⟩
  replace HF := Lib.hid (HF.out.trans' hfd)
  clear hfd
  refine hK.out _ _ ?_ (fun hHeld' => ?_)
  · show Sg93_0 _; rw [HSg93_0.out]; exact ⟨HF.out.cell b0 (fun f => f), HF.out.cell b1 (fun f => f), HF.out.cell b2 (fun f => f), HF.out.cell b3 (fun f => f), HF.out.cell b4 (fun f => f)⟩
  clear hK K hHeld
  have hHeld := hHeld'
  clear hHeld'
  try simp only [Act.put, List.setIfInBounds_toArray, List.set_cons_zero, List.set_cons_succ]
  refine heldp_take (v := ?_) 7 0 rfl (by kernel_rfl) (.inl ⟨by rfl, ?_⟩) hHeld ?_
  rotate_left
  · intro w hSw; replace hSw : Sg93_0 w := hSw; rw [HSg93_0.out] at hSw; (try dsimp only at hSw); first | (go_simp; done) | (go_simp; with_reducible rfl)
  try simp only [Act.put, List.setIfInBounds_toArray, List.set_cons_zero, List.set_cons_succ]
  refine heldp_take (v := ?_) 8 0 rfl (by kernel_rfl) (.inl ⟨by rfl, ?_⟩) hHeld ?_
  rotate_left
  · intro w hSw; replace hSw : Sg93_0 w := hSw; rw [HSg93_0.out] at hSw; (try dsimp only at hSw); first | (go_simp; done) | (go_simp; with_reducible rfl)
  try simp only [Act.put, List.setIfInBounds_toArray, List.set_cons_zero, List.set_cons_succ]
  refine heldp_call 11 0 rfl (by kernel_rfl) (fun K hK => ?_)
  go_simp
  go_at_call 33
  refine (C2.out _ (HF1.out.trans' HF.out)).mono ?_
  rintro e wc ⟨rfl, hfd⟩
  replace HF := Lib.hid (HF.out.trans' hfd)
  clear hfd
  refine hK.out _ _ ?_ (fun hHeld' => ?_)
  · show Sg93_0 _; rw [HSg93_0.out]; exact ⟨HF.out.cell b0 (fun f => f), HF.out.cell b1 (fun f => f), HF.out.cell b2 (fun f => f), HF.out.cell b3 (fun f => f), HF.out.cell b4 (fun f => f)⟩
  clear hK K hHeld
  have hHeld := hHeld'
  clear hHeld'
  try simp only [Act.put, List.setIfInBounds_toArray, List.set_cons_zero, List.set_cons_succ]
  refine heldp_take (v := ?_) 12 0 rfl (by kernel_rfl) (.inl ⟨by rfl, ?_⟩) hHeld ?_
  rotate_left
  · intro w hSw; replace hSw : Sg93_0 w := hSw; rw [HSg93_0.out] at hSw; (try dsimp only at hSw); first | (go_simp; done) | (go_simp; with_reducible rfl)
  try simp only [Act.put, List.setIfInBounds_toArray, List.set_cons_zero, List.set_cons_succ]
  refine heldp_take (v := ?_) 13 0 rfl (by kernel_rfl) (.inl ⟨by rfl, ?_⟩) hHeld ?_
  rotate_left
  · intro w hSw; replace hSw : Sg93_0 w := hSw; rw [HSg93_0.out] at hSw; (try dsimp only at hSw); first | (go_simp; done) | (go_simp; with_reducible rfl)
  try simp only [Act.put, List.setIfInBounds_toArray, List.set_cons_zero, List.set_cons_succ]
  refine heldp_take (v := ?_) 16 0 rfl (by kernel_rfl) (.inl ⟨by rfl, ?_⟩) hHeld ?_
  rotate_left
  · intro w hSw; replace hSw : Sg93_0 w := hSw; rw [HSg93_0.out] at hSw; (try dsimp only at hSw); first | (go_simp; done) | (go_simp; with_reducible rfl)
  try simp only [Act.put, List.setIfInBounds_toArray, List.set_cons_zero, List.set_cons_succ]
  refine heldp_take (v := ?_) 17 0 rfl (by kernel_rfl) (.inl ⟨by rfl, ?_⟩) hHeld ?_
  rotate_left
  · intro w hSw; replace hSw : Sg93_0 w := hSw; rw [HSg93_0.out] at hSw; (try dsimp only at hSw); first | (go_simp; done) | (go_simp; with_reducible rfl)
  try simp only [Act.put, List.setIfInBounds_toArray, List.set_cons_zero, List.set_cons_succ]
  refine heldp_take (v := ?_) 20 0 rfl (by kernel_rfl) (.inl ⟨by rfl, ?_⟩) hHeld ?_
  rotate_left
  · intro w hSw; replace hSw : Sg93_0 w := hSw; rw [HSg93_0.out] at hSw; (try dsimp only at hSw); first | (go_simp; done) | (go_simp; with_reducible rfl)
  try simp only [Act.put, List.setIfInBounds_toArray, List.set_cons_zero, List.set_cons_succ]
  refine heldp_take (v := ?_) 21 0 rfl (by kernel_rfl) (.inl ⟨by rfl, ?_⟩) hHeld ?_
  rotate_left
  · intro w hSw; replace hSw : Sg93_0 w := hSw; rw [HSg93_0.out] at hSw; (try dsimp only at hSw); first | (go_simp; done) | (go_simp; with_reducible rfl)
  try simp only [Act.put, List.setIfInBounds_toArray, List.set_cons_zero, List.set_cons_succ]
  refine heldp_done (by kernel_rfl) ?_
  try clear hHeld
  clear HSg93_0
  try clear Sg93_0
  clear b0 b1 b2 b3 b4
  go_wp2
  go_ret
  exact ⟨by first | (rw [← Hstr.out]; rfl) | (rw [Hstr.out]; rfl) | rfl, HF1.out.trans' HF.out⟩
set_option maxHeartbeats 2000000 in
theorem ref_rectext (r : Rc) (w : World) (hr : RcOk w r) (h64 : I64s r.dep) (hs : -9223372036854775808 ≤ r.s ∧ r.s ≤ 9223372036854775807) (hq : -9223372036854775808 ≤ r.q ∧ r.q ≤ 9223372036854775807) (hn : r.dep.length ≤ 1000) (hk : r.key.size ≤ 1000000) (hv : r.val.size ≤ 1000000) :
    Calls Tryz.prog 16 #[r.v] w fun e w' => e = .returned (.string ⟨r.text.toArray⟩) ∧ Fr no w w' := by
  obtain ⟨s, q, dv, dep, key, val⟩ := r
  obtain ⟨dO, dc, hdv, hdc, hdm⟩ := Rd.cap hr
  dsimp only at hdv hdc h64 hs hq hn hk hv
  subst hdv
  unfold Rc.v Rc.text
  dsimp only
  obtain ⟨R, hR⟩ : ∃ R : ByteArray, (⟨(rtext s q dep key.data.toList val.data.toList).toArray⟩ : ByteArray) = R := ⟨_, rfl⟩
  rw [hR]
  have hstr := rtext_str (Lib.itoa s) (Lib.itoa q) (vtext dep) key val
  rw [show (⟨(Lib.itoa s ++ 58 :: (Lib.itoa q ++ 32 :: (vtext dep ++ 32 :: (key.data.toList ++ 61 :: val.data.toList)))).toArray⟩ : ByteArray) = R from hR] at hstr
  obtain ⟨t0, ht0⟩ : ∃ t : ByteArray, ⟨(Lib.itoa s).toArray⟩ = t := ⟨_, rfl⟩
  obtain ⟨t1, ht1⟩ : ∃ t : ByteArray, ⟨(Lib.itoa q).toArray⟩ = t := ⟨_, rfl⟩
  obtain ⟨t2, ht2⟩ : ∃ t : ByteArray, ⟨(vtext dep).toArray⟩ = t := ⟨_, rfl⟩
  have z0 : t0.size ≤ 22 := by rw [← ht0]; show (Lib.itoa s).toArray.size ≤ _; simpa using itoa_len s hs.1 hs.2
  have z1 : t1.size ≤ 22 := by rw [← ht1]; show (Lib.itoa q).toArray.size ≤ _; simpa using itoa_len q hq.1 hq.2
  have z2 : t2.size ≤ 23002 := by rw [← ht2]; show (vtext dep).toArray.size ≤ _; have := vtext_lenR h64; simp; omega
  have zz0 : ¬ 9223372036854775807 < t0.size + 1 := by omega
  have zz1 : ¬ 9223372036854775807 < t0.size + 1 + t1.size := by omega
  have zz2 : ¬ 9223372036854775807 < t0.size + 1 + t1.size + 1 := by omega
  have zz3 : ¬ 9223372036854775807 < t0.size + 1 + t1.size + 1 + t2.size := by omega
  have zz4 : ¬ 9223372036854775807 < t0.size + 1 + t1.size + 1 + t2.size + 1 := by omega
  have zz5 : ¬ 9223372036854775807 < t0.size + 1 + t1.size + 1 + t2.size + 1 + key.size := by omega
  have zz6 : ¬ 9223372036854775807 < t0.size + 1 + t1.size + 1 + t2.size + 1 + key.size + 1 := by omega
  have zz7 : ¬ 9223372036854775807 < t0.size + 1 + t1.size + 1 + t2.size + 1 + key.size + 1 + val.size := by omega
  rw [ht0, ht1, ht2] at hstr
  obtain ⟨w1, hw1⟩ : ∃ w1, w.alloc (.cells #[.int .i64 s, .int .i64 q, .slice dO dep.length dc, .string key, .string val] 29) = w1 := ⟨_, rfl⟩
  have hf1 : Fr no w w1 := by rw [← hw1]; exact (Fr.refl no w).alloc _
  have hb1 : w1.heap[w.heap.size]? = some (.cells #[.int .i64 s, .int .i64 q, .slice dO dep.length dc, .string key, .string val] 29 (0, 0)) := by rw [← hw1]; exact World.alloc_heap_new _ _
  have c0 := fun (w' : World) (hf : Fr no w w') => ref_dec s w' hs.1 hs.2
  have c1 := fun (w' : World) (hf : Fr no w w') => ref_dec q w' hq.1 hq.2
  have c2 := fun (w' : World) (hf : Fr no w w') => ref_vtext (.slice dO dep.length dc) dep w' (Rd.fr hr hf (fun _ _ _ f => f)) h64 (by omega)
  rw [ht0] at c0
  rw [ht1] at c1
  rw [ht2] at c2
  have C0 := Lib.hid c0
  have C1 := Lib.hid c1
  have C2 := Lib.hid c2
  have Hstr := Lib.hid hstr
  have HW1 := Lib.hid hw1
  have HF1 := Lib.hid hf1
  clear hR hstr ht0 ht1 ht2 c0 c1 c2 hr h64 hw1 hf1
  generalize dep.length = dn at *
  have b0 : w1.cell? ⟨w.heap.size, 0, none⟩ = some (.int .i64 s) := cell_of_block hb1 rfl
  have b1 : w1.cell? ⟨w.heap.size, 1, none⟩ = some (.int .i64 q) := cell_of_block hb1 rfl
  have b2 : w1.cell? ⟨w.heap.size, 2, none⟩ = some (.slice dO dn dc) := cell_of_block hb1 rfl
  have b3 : w1.cell? ⟨w.heap.size, 3, none⟩ = some (.string key) := cell_of_block hb1 rfl
  have b4 : w1.cell? ⟨w.heap.size, 4, none⟩ = some (.string val) := cell_of_block hb1 rfl
  clear hb1
  go_enter Tryz.func16, Tryz.ntmps16
  go_upto_region 1 with (fail)
  rw [HW1.out]
  clear HW1
  generalize w.heap.size = ga at *
  obtain ⟨Sg276_0, HSg276_0⟩ : ∃ S : World → Prop, Hid (S = (fun w' => w'.cell? ⟨ga, 0, none⟩ = some (.int .i64 s) ∧ w'.cell? ⟨ga, 1, none⟩ = some (.int .i64 q) ∧ w'.cell? ⟨ga, 2, none⟩ = some (.slice dO dn dc) ∧ w'.cell? ⟨ga, 3, none⟩ = some (.string key) ∧ w'.cell? ⟨ga, 4, none⟩ = some (.string val))) := ⟨_, Lib.hid rfl⟩
  refine wp_heldp [] (pickS [Sg276_0]) (by kernel_rfl) ?_ (fun hHeld => ?_)
  · show Sg276_0 _; rw [HSg276_0.out]; exact ⟨b0, b1, b2, b3, b4⟩
  obtain ⟨wc, hwc⟩ : ∃ x, w1.drew = x := ⟨_, rfl⟩; rw [hwc] at hHeld; rw [hwc]; have HF : Hid (Fr no w1 wc) := (by rw [← hwc]; exact Lib.hid ((Fr.refl no w1).drewN 1)); clear hwc
  refine heldp_take (v := ?_) 0 0 rfl (by kernel_rfl) (.inl ⟨by rfl, ?_⟩) hHeld ?_
  rotate_left
  · intro w hSw; replace hSw : Sg276_0 w := hSw; rw [HSg276_0.out] at hSw; (try dsimp only at hSw); first | (go_simp; done) | (go_simp; with_reducible rfl)
  try simp only [Act.put, List.setIfInBounds_toArray, List.set_cons_zero, List.set_cons_succ]
  refine heldp_take (v := ?_) 1 0 rfl (by kernel_rfl) (.inl ⟨by rfl, ?_⟩) hHeld ?_
  rotate_left
  · intro w hSw; replace hSw : Sg276_0 w := hSw; rw [HSg276_0.out] at hSw; (try dsimp only at hSw); first | (go_simp; done) | (go_simp; with_reducible rfl)
  try simp only [Act.put, List.setIfInBounds_toArray, List.set_cons_zero, List.set_cons_succ]
  refine heldp_take (v := ?_) 4 0 rfl (by kernel_rfl) (.inl ⟨by rfl, ?_⟩) hHeld ?_
  rotate_left
  · intro w hSw; replace hSw : Sg276_0 w := hSw; rw [HSg276_0.out] at hSw; (try dsimp only at hSw); first | (go_simp; done) | (go_simp; with_reducible rfl)
  try simp only [Act.put, List.setIfInBounds_toArray, List.set_cons_zero, List.set_cons_succ]
  refine heldp_take (v := ?_) 5 0 rfl (by kernel_rfl) (.inl ⟨by rfl, ?_⟩) hHeld ?_
  rotate_left
  · intro w hSw; replace hSw : Sg276_0 w := hSw; rw [HSg276_0.out] at hSw; (try dsimp only at hSw); first | (go_simp; done) | (go_simp; with_reducible rfl)
  try simp only [Act.put, List.setIfInBounds_toArray, List.set_cons_zero, List.set_cons_succ]
  refine heldp_take (v := ?_) 9 0 rfl (by kernel_rfl) (.inl ⟨by rfl, ?_⟩) hHeld ?_
  rotate_left
  · intro w hSw; replace hSw : Sg276_0 w := hSw; rw [HSg276_0.out] at hSw; (try dsimp only at hSw); first | (go_simp; done) | (go_simp; with_reducible rfl)
  try simp only [Act.put, List.setIfInBounds_toArray, List.set_cons_zero, List.set_cons_succ]
  refine heldp_take (v := ?_) 10 0 rfl (by kernel_rfl) (.inl ⟨by rfl, ?_⟩) hHeld ?_
  rotate_left
  · intro w hSw; replace hSw : Sg276_0 w := hSw; rw [HSg276_0.out] at hSw; (try dsimp only at hSw); first | (go_simp; done) | (go_simp; with_reducible rfl)
  try simp only [Act.put, List.setIfInBounds_toArray, List.set_cons_zero, List.set_cons_succ]
  refine heldp_take (v := ?_) 14 0 rfl (by kernel_rfl) (.inl ⟨by rfl, ?_⟩) hHeld ?_
  rotate_left
  · intro w hSw; replace hSw : Sg276_0 w := hSw; rw [HSg276_0.out] at hSw; (try dsimp only at hSw); first | (go_simp; done) | (go_simp; with_reducible rfl)
  try simp only [Act.put, List.setIfInBounds_toArray, List.set_cons_zero, List.set_cons_succ]
  refine heldp_take (v := ?_) 15 0 rfl (by kernel_rfl) (.inl ⟨by rfl, ?_⟩) hHeld ?_
  rotate_left
  · intro w hSw; replace hSw : Sg276_0 w := hSw; rw [HSg276_0.out] at hSw; (try dsimp only at hSw); first | (go_simp; done) | (go_simp; with_reducible rfl)
  try simp only [Act.put, List.setIfInBounds_toArray, List.set_cons_zero, List.set_cons_succ]
  refine heldp_take (v := ?_) 18 0 rfl (by kernel_rfl) (.inl ⟨by rfl, ?_⟩) hHeld ?_
  rotate_left
  · intro w hSw; replace hSw : Sg276_0 w := hSw; rw [HSg276_0.out] at hSw; (try dsimp only at hSw); first | (go_simp; done) | (go_simp; with_reducible rfl)
  try simp only [Act.put, List.setIfInBounds_toArray, List.set_cons_zero, List.set_cons_succ]
  refine heldp_take (v := ?_) 19 0 rfl (by kernel_rfl) (.inl ⟨by rfl, ?_⟩) hHeld ?_
  rotate_left
  · intro w hSw; replace hSw : Sg276_0 w := hSw; rw [HSg276_0.out] at hSw; (try dsimp only at hSw); first | (go_simp; done) | (go_simp; with_reducible rfl)
  try simp only [Act.put, List.setIfInBounds_toArray, List.set_cons_zero, List.set_cons_succ]
  refine heldp_call 2 0 rfl (by kernel_rfl) (fun K hK => ?_)
  go_simp
  go_at_call 34
  refine (C0.out _ (HF1.out.trans' HF.out)).mono ?_
  rintro e wc ⟨rfl, hfd⟩
  replace HF := Lib.hid (HF.out.trans' hfd)
  clear hfd
  refine hK.out _ _ ?_ (fun hHeld' => ?_)
  · show Sg276_0 _; rw [HSg276_0.out]; exact ⟨HF.out.cell b0 (fun f => f), HF.out.cell b1 (fun f => f), HF.out.cell b2 (fun f => f), HF.out.cell b3 (fun f => f), HF.out.cell b4 (fun f => f)⟩
  clear hK K hHeld
  have hHeld := hHeld'
  clear hHeld'
  try simp only [Act.put, List.setIfInBounds_toArray, List.set_cons_zero, List.set_cons_succ]
  refine heldp_take (v := ?_) 3 0 rfl (by kernel_rfl) (.inl ⟨by rfl, ?_⟩) hHeld ?_
  rotate_left
  · intro w hSw; replace hSw : Sg276_0 w := hSw; rw [HSg276_0.out] at hSw; (try dsimp only at hSw); first | (go_simp; done) | (go_simp; with_reducible rfl)
  try simp only [Act.put, List.setIfInBounds_toArray, List.set_cons_zero, List.set_cons_succ]
  refine heldp_call 6 0 rfl (by kernel_rfl) (fun K hK => ?_)
  go_simp
  go_at_call 34
  refine (C1.out _ (HF1.out.trans' HF.out)).mono ?_
  rintro e wc ⟨rfl, hfd⟩
  replace HF := Lib.hid (HF.out.trans' hfd)
  clear hfd
  refine hK.out _ _ ?_ (fun hHeld' => ?_)
  · show Sg276_0 _; rw [HSg276_0.out]; exact ⟨HF.out.cell b0 (fun f => f), HF.out.cell b1 (fun f => f), HF.out.cell b2 (fun f => f), HF.out.cell b3 (fun f => f), HF.out.cell b4 (fun f => f)⟩
  clear hK K hHeld
  have hHeld := hHeld'
  clear hHeld'
  try simp only [Act.put, List.setIfInBounds_toArray, List.set_cons_zero, List.set_cons_succ]
  refine heldp_take (v := ?_) 7 0 rfl (by kernel_rfl) (.inl ⟨by rfl, ?_⟩) hHeld ?_
  rotate_left
  · intro w hSw; replace hSw : Sg276_0 w := hSw; rw [HSg276_0.out] at hSw; (try dsimp only at hSw); first | (go_simp; done) | (go_simp; with_reducible rfl)
  try simp only [Act.put, List.setIfInBounds_toArray, List.set_cons_zero, List.set_cons_succ]
  refine heldp_take (v := ?_) 8 0 rfl (by kernel_rfl) (.inl ⟨by rfl, ?_⟩) hHeld ?_
  rotate_left
  · intro w hSw; replace hSw : Sg276_0 w := hSw; rw [HSg276_0.out] at hSw; (try dsimp only at hSw); first | (go_simp; done) | (go_simp; with_reducible rfl)
  try simp only [Act.put, List.setIfInBounds_toArray, List.set_cons_zero, List.set_cons_succ]
  refine heldp_call 11 0 rfl (by kernel_rfl) (fun K hK => ?_)
  go_simp
  go_at_call 35
  refine (C2.out _ (HF1.out.trans' HF.out)).mono ?_
  rintro e wc ⟨rfl, hfd⟩
  replace HF := Lib.hid (HF.out.trans' hfd)
  clear hfd
  refine hK.out _ _ ?_ (fun hHeld' => ?_)
  · show Sg276_0 _; rw [HSg276_0.out]; exact ⟨HF.out.cell b0 (fun f => f), HF.out.cell b1 (fun f => f), HF.out.cell b2 (fun f => f), HF.out.cell b3 (fun f => f), HF.out.cell b4 (fun f => f)⟩
  clear hK K hHeld
  have hHeld := hHeld'
  clear hHeld'
  try simp only [Act.put, List.setIfInBounds_toArray, List.set_cons_zero, List.set_cons_succ]
  refine heldp_take (v := ?_) 12 0 rfl (by kernel_rfl) (.inl ⟨by rfl, ?_⟩) hHeld ?_
  rotate_left
  · intro w hSw; replace hSw : Sg276_0 w := hSw; rw [HSg276_0.out] at hSw; (try dsimp only at hSw); first | (go_simp; done) | (go_simp; with_reducible rfl)
  try simp only [Act.put, List.setIfInBounds_toArray, List.set_cons_zero, List.set_cons_succ]
  refine heldp_take (v := ?_) 13 0 rfl (by kernel_rfl) (.inl ⟨by rfl, ?_⟩) hHeld ?_
  rotate_left
  · intro w hSw; replace hSw : Sg276_0 w := hSw; rw [HSg276_0.out] at hSw; (try dsimp only at hSw); first | (go_simp; done) | (go_simp; with_reducible rfl)
  try simp only [Act.put, List.setIfInBounds_toArray, List.set_cons_zero, List.set_cons_succ]
  refine heldp_take (v := ?_) 16 0 rfl (by kernel_rfl) (.inl ⟨by rfl, ?_⟩) hHeld ?_
  rotate_left
  · intro w hSw; replace hSw : Sg276_0 w := hSw; rw [HSg276_0.out] at hSw; (try dsimp only at hSw); first | (go_simp; done) | (go_simp; with_reducible rfl)
  try simp only [Act.put, List.setIfInBounds_toArray, List.set_cons_zero, List.set_cons_succ]
  refine heldp_take (v := ?_) 17 0 rfl (by kernel_rfl) (.inl ⟨by rfl, ?_⟩) hHeld ?_
  rotate_left
  · intro w hSw; replace hSw : Sg276_0 w := hSw; rw [HSg276_0.out] at hSw; (try dsimp only at hSw); first | (go_simp; done) | (go_simp; with_reducible rfl)
  try simp only [Act.put, List.setIfInBounds_toArray, List.set_cons_zero, List.set_cons_succ]
  refine heldp_take (v := ?_) 20 0 rfl (by kernel_rfl) (.inl ⟨by rfl, ?_⟩) hHeld ?_
  rotate_left
  · intro w hSw; replace hSw : Sg276_0 w := hSw; rw [HSg276_0.out] at hSw; (try dsimp only at hSw); first | (go_simp; done) | (go_simp; with_reducible rfl)
  try simp only [Act.put, List.setIfInBounds_toArray, List.set_cons_zero, List.set_cons_succ]
  refine heldp_take (v := ?_) 21 0 rfl (by kernel_rfl) (.inl ⟨by rfl, ?_⟩) hHeld ?_
  rotate_left
  · intro w hSw; replace hSw : Sg276_0 w := hSw; rw [HSg276_0.out] at hSw; (try dsimp only at hSw); first | (go_simp; done) | (go_simp; with_reducible rfl)
  try simp only [Act.put, List.setIfInBounds_toArray, List.set_cons_zero, List.set_cons_succ]
  refine heldp_done (by kernel_rfl) ?_
  try clear hHeld
  clear HSg276_0
  try clear Sg276_0
  clear b0 b1 b2 b3 b4
  go_wp2
  go_ret
  exact ⟨by first | (rw [← Hstr.out]; rfl) | (rw [Hstr.out]; rfl) | rfl, HF1.out.trans' HF.out⟩
end Go.Proofs.YtgcjnhocoklfbaaGreatDoor
