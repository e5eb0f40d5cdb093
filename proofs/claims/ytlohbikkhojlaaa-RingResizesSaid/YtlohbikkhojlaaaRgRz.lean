/- RingResizes, walked. -/
import Derived.Test.YtlohbikkhojlaaaRgR
import Derived.IntWalk
namespace Go.XL
open Go.RowKit Go.Shelf
/-- turns from place a0 on: who had one has nothing -/
structure T8 (n k a0 j N a : Nat) (cs : List Nat) : Prop where
  len : cs.length = k
  at_ : a = (a0 + j) % k
  v : ∀ t, t < j → cs[(a0 + t) % k]? = some 0
  sum : N + cs.sum = n
theorem T8.step {n k a0 j N a c : Nat} {cs : List Nat} (h : T8 n k a0 j N a cs) (hc : cs[a]? = some c) : T8 n k a0 (j + 1) (N + c) ((a + 1) % k) (cs.set a 0) := by
  have hl := (List.getElem?_eq_some_iff.1 hc).1
  refine ⟨by rw [List.length_set]; exact h.len, by rw [h.at_, Nat.mod_add_mod, Nat.add_assoc], fun t ht => ?_, ?_⟩
  · by_cases e : a = (a0 + t) % k
    · rw [← e, List.getElem?_set_self hl]
    · rw [List.getElem?_set_ne e]
      refine h.v t ?_
      have : t ≠ j := fun e2 => e (by rw [e2]; exact h.at_)
      omega
  · have := sum_set (d := 0) hc
    have := h.sum
    omega
theorem T8.fin {n k a0 N a : Nat} {cs : List Nat} (h : T8 n k a0 8 N a cs) (hk : k ≤ 8) (ha : a0 < k) : cs.sum = 0 ∧ N = n := by
  have h0 : cs.sum = 0 := sum_zero cs (fun c hc => by
    obtain ⟨x, hx⟩ := List.getElem?_of_mem hc
    have hxl := (List.getElem?_eq_some_iff.1 hx).1
    rw [h.len] at hxl
    have key : ∃ t, t < 8 ∧ (a0 + t) % k = x := by
      by_cases e : a0 ≤ x
      · exact ⟨x - a0, by omega, by rw [show a0 + (x - a0) = x by omega]; exact Nat.mod_eq_of_lt hxl⟩
      · exact ⟨x + k - a0, by omega, by rw [show a0 + (x + k - a0) = x + k by omega, Nat.add_mod_right]; exact Nat.mod_eq_of_lt hxl⟩
    obtain ⟨t, ht, e⟩ := key
    have := h.v t ht
    rw [e, hx] at this
    cases this
    rfl)
  exact ⟨h0, by have := h.sum; omega⟩
end Go.XL
namespace Go.Proofs.Ytlohbikkhojlaaa
open Go.RowKit Go.Shelf Go.XL
set_option linter.unusedVariables false
set_option linter.unusedSimpArgs false
attribute [local go_sem] Oper.semAt_some
theorem kx_law (w : World) : Calls Try.prog 10 #[.int .i64 0, .int .i64 0, .slice none 0 0] w fun e w' => e = .returned (.agg #[.int .i64 1, .int .i64 0, .int .i64 0, .slice none 0 0, .string ⟨#[107]⟩, .string ⟨#[]⟩]) ∧ Fr no w w' := by
  have hd := law_D 0 0 none 0 0 [] w
  rw [show (mkDr 0 0 (.slice none 0 0) []).v = _ from kDv 0 0 1 (by decide)] at hd
  exact hd
set_option maxRecDepth 100000 in
set_option maxHeartbeats 8000000 in
theorem ringResizes_any (v v1 : Value) (w : World) (zs ys : List Int) (h : Rd w 1 v zs.length (zs.map (Value.int .u8))) (hz : ∀ x ∈ zs, 0 ≤ x ∧ x ≤ 255) (h1 : Rd w 1 v1 ys.length (ys.map (Value.int .u8))) (hy : ∀ x ∈ ys, 0 ≤ x ∧ x ≤ 255) :
    Calls Try.prog 5 #[v, v1] w fun e w' => e = .returned (.bool true) ∧ Fr no w w' := by
  obtain ⟨vo, vc, rfl, hvc, hvm⟩ := h.cap
  obtain ⟨uo, uc, rfl, huc, hum⟩ := h1.cap
  have H := Lib.hid h
  have H1 := Lib.hid h1
  have Hz := Lib.hid hz
  have Hy := Lib.hid hy
  clear h hz h1 hy
  generalize hn : zs.length = n at *
  generalize hm : ys.length = m at *
  have Hn := Lib.hid hn
  have Hm := Lib.hid hm
  clear hn hm
  go_enter Try.func5, Try.ntmps5
  go_wp2_with fail
  refine (rknown10 w).mono ?_
  rintro e w1 ⟨rfl, hf1⟩
  have HF1 := Lib.hid hf1
  clear hf1
  by_cases h30 : 30 < n
  · go_wp2
    go_ret
    exact ⟨rfl, HF1.out⟩
  by_cases h31 : 30 < m
  · go_wp2
    go_ret
    exact ⟨rfl, HF1.out⟩
  have hnew := kx_new 3 (by decide) HF1.out
  rw [show ((3 : Nat) : Int) = 3 from rfl] at hnew
  have Hnew := Lib.hid hnew
  clear HF1 hnew
  go_wp2_with fail
  refine Hnew.out.mono ?_
  clear Hnew
  rintro e w2 ⟨p, rfl, hX⟩
  have X := Lib.hid hX
  clear hX
  go_wp2_with fail
  go_loopw [7, 8, 9] (fun kv nv iv wr => ∃ (i k N a : Nat) (cs : List Nat), i ≤ n ∧ 1 ≤ k ∧ k ≤ 8 ∧ N ≤ i ∧ a < k ∧ kv = .int .i64 k ∧ nv = .int .i64 N ∧ iv = .int .i64 i ∧ Hid (cs.length = k) ∧ Hid (N + cs.sum = i) ∧ Hid (RgX w wr p (kRg cs a (N : Int)) (fun _ => False) [])) (fun _ _ iv _ => n - (intOf iv).toNat)
  case atStart => exact ⟨0, 3, 0, 0, List.replicate 3 0, Nat.zero_le _, by decide, by decide, Nat.zero_le _, by decide, rfl, rfl, rfl, Lib.hid rfl, Lib.hid rfl, X⟩
  clear X
  case round =>
    obtain ⟨i, k, N, a, cs, hi, hk1, hk8, hNi, hak, rfl, rfl, rfl, Hl, Hs, X⟩ := hrel
    generalize wr = W at *
    by_cases hlt : i < n
    · obtain ⟨z, hzi⟩ : ∃ z, zs[i]? = some z := ⟨zs[i]'(by rw [Hn.out]; exact hlt), by simp⟩
      obtain ⟨g, off, c', he, _, _, hcell⟩ := Rd.form H.out (by omega)
      cases he
      have hc0 := hcell i (.int .u8 z) (by simp [hzi])
      have hc := X.out.fr.cell hc0 (fun f => f)
      have hzb := Hz.out z (List.mem_of_getElem? hzi)
      have HC0 := Lib.hid hc0
      clear hcell hzi hc0
      have hzk : 0 ≤ z % k ∧ z % k < k := ⟨Int.emod_nonneg _ (by omega), Int.emod_lt_of_pos _ (by omega)⟩
      have hzt : z.tmod k = z % k := Int.tmod_eq_emod_of_nonneg hzb.1
      obtain ⟨q, hq⟩ : ∃ q : Nat, z % k = q := ⟨(z % k).toNat, by omega⟩
      rw [hq] at hzk hzt
      have hqk : q < k := by omega
      obtain ⟨c, hcq⟩ : ∃ c, cs[q]? = some c := ⟨cs[q]'(by rw [Hl.out]; exact hqk), by simp⟩
      have hcs : c ≤ i := by have := sum_le (List.mem_of_getElem? hcq); have := Hs.out; omega
      have HC := Lib.hid hcq
      have hk0 : ¬ ((k : Int) = 0) := by omega
      have hk00 : ¬ k = 0 := by omega
      have hwq : IntKind.i64.wrap (q : Int) = q := IntWalk.i64_in _ (by omega)
      have hwz : IntKind.i64.wrap z = z := IntWalk.i64_in _ (by omega)
      clear hcq hq
      go_upto_region 13 with (fail)
      obtain ⟨Sg118_0, HSg118_0⟩ : ∃ S : World → Prop, Hid (S = (fun w' => w'.cell? ⟨g, off + i, none⟩ = some (.int .u8 z))) := ⟨_, Lib.hid rfl⟩
      refine wp_heldp [] (pickS [Sg118_0]) (by kernel_rfl) ?_ (fun hHeld => ?_)
      · show Sg118_0 _; rw [HSg118_0.out]; exact hc
      obtain ⟨wc, hwc⟩ : ∃ x, W.drew = x := ⟨_, rfl⟩; rw [hwc] at hHeld; rw [hwc]; have HF : Hid (Fr no W wc) := (by rw [← hwc]; exact Lib.hid ((Fr.refl no W).drewN 1)); clear hwc
      refine heldp_take (v := ?_) 0 0 rfl (by kernel_rfl) (.inl ⟨by rfl, ?_⟩) hHeld ?_
      rotate_left
      · intro w hSw; replace hSw : Sg118_0 w := hSw; rw [HSg118_0.out] at hSw; (try dsimp only at hSw); first | (go_simp; done) | (go_simp; with_reducible rfl)
      try simp only [Act.put, List.setIfInBounds_toArray, List.set_cons_zero, List.set_cons_succ]
      refine heldp_take (v := ?_) 1 0 rfl (by kernel_rfl) (.inl ⟨by rfl, ?_⟩) hHeld ?_
      rotate_left
      · intro w hSw; replace hSw : Sg118_0 w := hSw; rw [HSg118_0.out] at hSw; (try dsimp only at hSw); first | (go_simp; done) | (go_simp; with_reducible rfl)
      try simp only [Act.put, List.setIfInBounds_toArray, List.set_cons_zero, List.set_cons_succ]
      refine heldp_take (v := ?_) 2 0 rfl (by kernel_rfl) (.inl ⟨by rfl, ?_⟩) hHeld ?_
      rotate_left
      · intro w hSw; replace hSw : Sg118_0 w := hSw; rw [HSg118_0.out] at hSw; (try dsimp only at hSw); first | (go_simp; done) | (go_simp; with_reducible rfl)
      try simp only [Act.put, List.setIfInBounds_toArray, List.set_cons_zero, List.set_cons_succ]
      refine heldp_take (v := ?_) 3 0 rfl (by kernel_rfl) (.inl ⟨by rfl, ?_⟩) hHeld ?_
      rotate_left
      · intro w hSw; replace hSw : Sg118_0 w := hSw; rw [HSg118_0.out] at hSw; (try dsimp only at hSw); first | (go_simp; done) | (go_simp; with_reducible rfl)
      try simp only [Act.put, List.setIfInBounds_toArray, List.set_cons_zero, List.set_cons_succ]
      refine heldp_take (v := ?_) 4 0 rfl (by kernel_rfl) (.inl ⟨by rfl, ?_⟩) hHeld ?_
      rotate_left
      · intro w hSw; replace hSw : Sg118_0 w := hSw; rw [HSg118_0.out] at hSw; (try dsimp only at hSw); first | (go_simp; done) | (go_simp; with_reducible rfl)
      try simp only [Act.put, List.setIfInBounds_toArray, List.set_cons_zero, List.set_cons_succ]
      refine heldp_take (v := ?_) 5 0 rfl (by kernel_rfl) (.inl ⟨by rfl, ?_⟩) hHeld ?_
      rotate_left
      · intro w hSw; replace hSw : Sg118_0 w := hSw; rw [HSg118_0.out] at hSw; (try dsimp only at hSw); first | (go_simp; done) | (go_simp; with_reducible rfl)
      try simp only [Act.put, List.setIfInBounds_toArray, List.set_cons_zero, List.set_cons_succ]
      refine heldp_take (v := ?_) 6 0 rfl (by kernel_rfl) (.inl ⟨by rfl, ?_⟩) hHeld ?_
      rotate_left
      · intro w hSw; replace hSw : Sg118_0 w := hSw; rw [HSg118_0.out] at hSw; (try dsimp only at hSw); first | (go_simp; done) | (go_simp; with_reducible rfl)
      try simp only [Act.put, List.setIfInBounds_toArray, List.set_cons_zero, List.set_cons_succ]
      refine heldp_take (v := ?_) 7 0 rfl (by kernel_rfl) (.inl ⟨by rfl, ?_⟩) hHeld ?_
      rotate_left
      · intro w hSw; replace hSw : Sg118_0 w := hSw; rw [HSg118_0.out] at hSw; (try dsimp only at hSw); first | (go_simp; done) | (go_simp; with_reducible rfl)
      try simp only [Act.put, List.setIfInBounds_toArray, List.set_cons_zero, List.set_cons_succ]
      refine heldp_call 8 0 rfl (by kernel_rfl) (fun K hK => ?_)
      go_simp
      go_at_call 10
      refine (kx_law wc).mono ?_
      rintro e wc ⟨rfl, hfd⟩
      replace HF := Lib.hid (HF.out.trans' hfd)
      clear hfd
      refine hK.out _ _ ?_ (fun hHeld' => ?_)
      · show Sg118_0 _; rw [HSg118_0.out]; first | exact X.out.fr.cell HC0.out (fun f => f) | exact HF.out.cell hc (fun f => f)
      clear hK K hHeld
      have hHeld := hHeld'
      clear hHeld'
      try simp only [Act.put, List.setIfInBounds_toArray, List.set_cons_zero, List.set_cons_succ]
      refine heldp_call 9 0 rfl (by kernel_rfl) (fun K hK => ?_)
      go_simp
      go_at_call 9
      refine (kx_put X.out HF.out HC.out (by omega) (by have := Hs.out; omega) (by omega)).mono ?_
      rintro e wc ⟨rfl, hX, _⟩
      replace X := Lib.hid hX
      clear hX
      refine hK.out _ _ ?_ (fun hHeld' => ?_)
      · show Sg118_0 _; rw [HSg118_0.out]; first | exact X.out.fr.cell HC0.out (fun f => f) | exact HF.out.cell hc (fun f => f)
      clear hK K hHeld
      have hHeld := hHeld'
      clear hHeld'
      try simp only [Act.put, List.setIfInBounds_toArray, List.set_cons_zero, List.set_cons_succ]
      refine heldp_take (v := ?_) 10 0 rfl (by kernel_rfl) (.inl ⟨by rfl, ?_⟩) hHeld ?_
      rotate_left
      · intro w hSw; replace hSw : Sg118_0 w := hSw; rw [HSg118_0.out] at hSw; (try dsimp only at hSw); first | (go_simp; done) | (go_simp; with_reducible rfl)
      try simp only [Act.put, List.setIfInBounds_toArray, List.set_cons_zero, List.set_cons_succ]
      refine heldp_done (by kernel_rfl) ?_
      try clear hHeld
      clear HSg118_0
      try clear Sg118_0
      clear hc hzk hzt hwq hwz hk0 hk00 HF
      have L1 : Hid ((cs.set q (c + 1)).length = k) := Lib.hid (by rw [List.length_set]; exact Hl.out)
      have S1 : Hid (N + (cs.set q (c + 1)).sum = i + 1) := Lib.hid (by have := sum_set (d := c + 1) HC.out; have := Hs.out; omega)
      generalize cs.set q (c + 1) = cs1 at *
      generalize wc = W1 at *
      clear HC Hl Hs hcs HC0 hzb hqk
      go_upto_if 51 with (fail)
      go_cut [7, 8] from 31 to 95 (fun kv nv wx => ∃ (k' N' a' : Nat) (cs' : List Nat), 1 ≤ k' ∧ k' ≤ 8 ∧ N' ≤ i + 1 ∧ a' < k' ∧ kv = .int .i64 k' ∧ nv = .int .i64 N' ∧ Hid (cs'.length = k') ∧ Hid (N' + cs'.sum = i + 1) ∧ Hid (RgX w wx p (kRg cs' a' (N' : Int)) (fun _ => False) []))
      case first =>
        by_cases him : i < m
        · obtain ⟨y, hyi⟩ : ∃ y, ys[i]? = some y := ⟨ys[i]'(by rw [Hm.out]; exact him), by simp⟩
          obtain ⟨g1, off1, c1', he, _, _, hcell⟩ := Rd.form H1.out (by omega)
          cases he
          have hc := X.out.fr.cell (hcell i (.int .u8 y) (by simp [hyi])) (fun f => f)
          have hyb := Hy.out y (List.mem_of_getElem? hyi)
          clear hcell hyi
          have hy3 : y % 3 = 0 ∨ y % 3 = 1 ∨ y % 3 = 2 := by omega
          rcases hy3 with hy0 | hy0 | hy0
          · obtain ⟨k', hk'⟩ : ∃ k' : Nat, 1 + y / 3 % 8 = k' := ⟨(1 + y / 3 % 8).toNat, by omega⟩
            have hkb : 1 ≤ k' ∧ k' ≤ 8 := by omega
            have hyd : 0 ≤ y / 3 ∧ y / 3 ≤ 85 := by omega
            have hydm : 0 ≤ y / 3 % 8 ∧ y / 3 % 8 ≤ 7 := by omega
            go_upto_region 19 with (fail)
            first | rw [hk'] | skip
            clear hc hk' hyd hydm hy0
            go_wp2_with fail
            have hr := kx_resize X.out k' hkb (by rw [L1.out]; omega) (by rw [L1.out]; omega) (by have := S1.out; omega)
            refine hr.mono ?_
            clear hr
            rintro e W2 ⟨cs', rfl, el, es, hX⟩
            obtain ⟨a', ha'⟩ : ∃ a', (if k' ≤ a then 0 else a) = a' := ⟨_, rfl⟩
            have hak' : a' < k' := by rw [← ha']; split <;> omega
            rw [ha'] at hX
            have X2 := Lib.hid hX
            have L2 := Lib.hid el
            have S2 : Hid (N + cs'.sum = i + 1) := Lib.hid (by rw [es]; exact S1.out)
            clear hX el es ha' X
            go_wp2_with fail
            have hat := kx_at X2.out
            refine hat.mono ?_
            clear hat
            rintro e w' ⟨rfl, rfl⟩
            go_wp2_with fail
            have hat := kx_at X2.out
            refine hat.mono ?_
            clear hat
            rintro e w' ⟨rfl, rfl⟩
            go_wp2
            go_meet
            exact ⟨k', N, a', cs', hkb.1, hkb.2, by omega, hak', rfl, rfl, L2, S2, X2⟩
          · obtain ⟨c2, hc2⟩ : ∃ c2, cs1[a]? = some c2 := ⟨cs1[a]'(by rw [L1.out]; exact hak), by simp⟩
            have hcs2 : c2 + N ≤ i + 1 := by have := sum_le (List.mem_of_getElem? hc2); have := S1.out; omega
            have S2 : Hid (N + c2 + (cs1.set a 0).sum = i + 1) := Lib.hid (by have := sum_set (d := 0) hc2; have := S1.out; omega)
            have HC2 := Lib.hid hc2
            clear hc2
            go_wp2_with fail
            have ht := kx_turn X.out HC2.out (by rw [L1.out]; omega) (by have := S1.out; omega) (by omega)
            refine ht.mono ?_
            clear ht hc
            rintro e W2 ⟨oo, oc, rfl, hX, _⟩
            obtain ⟨_, _, he, hoc1, hoc2⟩ := (hX.row (List.mem_cons_self ..)).cap
            cases he
            have X2 := Lib.hid (hX.keep (ks' := []) (fun k hk => by cases hk))
            rw [L1.out] at X2
            have L2 : Hid ((cs1.set a 0).length = k) := Lib.hid (by rw [List.length_set]; exact L1.out)
            have hak2 : (a + 1) % k < k := Nat.mod_lt _ (by omega)
            clear hX X
            go_wp2
            go_meet
            exact ⟨k, N + c2, (a + 1) % k, cs1.set a 0, hk1, hk8, by omega, hak2, rfl, by simp, L2, S2, X2⟩
          · go_wp2
            go_meet
            exact ⟨k, N, a, cs1, hk1, hk8, by omega, hak, rfl, rfl, L1, S1, X⟩
        · go_wp2
          go_meet
          exact ⟨k, N, a, cs1, hk1, hk8, by omega, hak, rfl, rfl, L1, S1, X⟩
      case rest =>
        obtain ⟨k', N', a', cs', hk1', hk8', hN', hak', rfl, rfl, L2, S2, X2⟩ := hcut
        clear L1 S1 X
        generalize wc = W2 at *
        go_wp2_with fail
        have hln := kx_len X2.out (by rw [L2.out]; omega) (by have := S2.out; omega)
        rw [show ((cs'.sum : Nat) : Int) = i + 1 - N' by have := S2.out; omega] at hln
        refine hln.mono ?_
        clear hln
        rintro e W3 ⟨rfl, hX, _⟩
        have X3 := Lib.hid hX
        clear hX X2
        go_wp2
        go_roundw
        case rel => exact ⟨i + 1, k', N', a', cs', by omega, hk1', hk8', hN', hak', rfl, rfl, by go_num, L2, S2, X3⟩
        case measure => simp [intOf]; omega
    · obtain rfl : n = i := by omega
      have T0 : Hid (T8 n k a 0 N a cs) := Lib.hid ⟨Hl.out, (Nat.mod_eq_of_lt hak).symm, fun t ht => by omega, Hs.out⟩
      clear Hl Hs
      go_wp2_with fail
      go_loopw [8, 10] (fun nv jv wr => ∃ (j N' a' : Nat) (cs' : List Nat), j ≤ 8 ∧ N' ≤ n ∧ nv = .int .i64 N' ∧ jv = .int .i64 j ∧ Hid (T8 n k a j N' a' cs') ∧ Hid (RgX w wr p (kRg cs' a' (N' : Int)) (fun _ => False) [])) (fun _ jv _ => 8 - (intOf jv).toNat)
      case atStart => exact ⟨0, N, a, cs, Nat.zero_le _, hNi, rfl, rfl, T0, X⟩
      clear X T0
      case round =>
        obtain ⟨j, N', a', cs', hj, hN', rfl, rfl, HT, X⟩ := hrel
        generalize wr = V at *
        have hcl := HT.out.len
        have hcsum : N' + cs'.sum = n := HT.out.sum
        have hal : a' < k := by rw [HT.out.at_]; exact Nat.mod_lt _ (by omega)
        by_cases hj8 : j < 8
        · obtain ⟨c2, hc2⟩ : ∃ c2, cs'[a']? = some c2 := ⟨cs'[a']'(by omega), by simp⟩
          have hcs2 : c2 + N' ≤ n := by have := sum_le (List.mem_of_getElem? hc2); omega
          have T2 := Lib.hid (HT.out.step hc2)
          have HC2 := Lib.hid hc2
          have Hcl := Lib.hid hcl
          have Hcs := Lib.hid hcsum
          clear hc2 HT hcl hcsum
          go_wp2_with fail
          have ht := kx_turn X.out HC2.out (by rw [Hcl.out]; omega) (by have := Hcs.out; omega) (by omega)
          refine ht.mono ?_
          clear ht
          rintro e V2 ⟨oo, oc, rfl, hX, _⟩
          obtain ⟨_, _, he, hoc1, hoc2⟩ := (hX.row (List.mem_cons_self ..)).cap
          cases he
          have X2 := Lib.hid (hX.keep (ks' := []) (fun k hk => by cases hk))
          rw [Hcl.out] at X2
          clear hX X
          go_wp2
          go_roundw
          case rel => exact ⟨j + 1, N' + c2, (a' + 1) % k, cs'.set a' 0, by omega, by omega, by simp, by go_num, T2, X2⟩
          case measure => simp [intOf]; omega
        · obtain rfl : j = 8 := by omega
          obtain ⟨hs0, rfl⟩ := HT.out.fin hk8 hak
          have Hcl := Lib.hid hcl
          have Hs0 := Lib.hid hs0
          clear HT hs0 hcl hcsum
          go_wp2_with fail
          have hln := kx_len X.out (by rw [Hcl.out]; omega) (by rw [Hs0.out]; omega)
          rw [Hs0.out] at hln
          refine hln.mono ?_
          clear hln
          rintro e V2 ⟨rfl, hX, _⟩
          have X2 := Lib.hid hX
          clear hX X
          go_wp2_with fail
          have htk := kx_token X2.out
          refine htk.mono ?_
          clear htk
          rintro e V3 ⟨so, sn, sc, lo, lc, rfl, hX⟩
          have X3 := Lib.hid hX
          clear hX X2
          have hfl := tokNext 0 N' (.slice so sn sc) (.slice lo 0 lc)
          go_wp2_with fail
          clear hfl
          refine (x_resize_bad X3.out 0 (by decide)).mono ?_
          rintro e w' ⟨rfl, rfl⟩
          go_wp2_with fail
          refine (x_resize_bad X3.out 9 (by decide)).mono ?_
          rintro e w' ⟨rfl, rfl⟩
          go_wp2
          go_ret
          exact ⟨rfl, X3.out.fr⟩
end Go.Proofs.Ytlohbikkhojlaaa
