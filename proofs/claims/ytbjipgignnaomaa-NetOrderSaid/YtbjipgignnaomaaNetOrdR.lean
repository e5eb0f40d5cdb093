/- The walk of the law NetOrder. -/
import Derived.Test.YtbjipgignnaomaaNetK
import Derived.Test.YtbjipgignnaomaaCutOut
import Derived.OpenShut
import Derived.IntWalk
namespace Go.XL
open Go.RowKit Go.Shelf
set_option linter.unusedVariables false
set_option linter.unusedSimpArgs false
/-- two ways: m on the one, k on the other -/
def oL (m : List Int) (k : Nat) : Int → Int → List Int := fun a b => if a = 0 ∧ b = 1 then m else if a = 1 ∧ b = 0 then (List.range k).map (fun j : Nat => 1000 + (j : Int)) else []
theorem oL_01 (m : List Int) (k : Nat) : oL m k 0 1 = m := rfl
theorem oL_10 (m : List Int) (k : Nat) : oL m k 1 0 = (List.range k).map (fun j : Nat => 1000 + (j : Int)) := rfl
theorem oL_upd (m l : List Int) (k : Nat) : upd2 (oL m k) 0 1 l = oL l k := by
  funext a b
  unfold upd2 oL
  split <;> simp_all
theorem oL_upd10 (m : List Int) (k : Nat) : upd2 (oL m k) 1 0 ((List.range k).map (fun j : Nat => 1000 + (j : Int)) ++ [1000 + (k : Int)]) = oL m (k + 1) := by
  funext a b
  unfold upd2 oL
  by_cases h : a = 1 ∧ b = 0
  · obtain ⟨rfl, rfl⟩ := h
    simp [List.range_succ]
  · simp [h]
theorem oL_send (m : List Int) (k : Nat) (x : Int) (h : m.length < 64) : sendR 2 (oL m k) kC0 0 1 = 0 ∧ sendL 2 (oL m k) kC0 0 1 x = oL (m ++ [x]) k := by
  have h1 : sendR 2 (oL m k) kC0 0 1 = 0 := by
    unfold sendR
    rw [if_neg (by decide), if_neg (by decide), if_neg (by rw [oL_01]; omega)]
  exact ⟨h1, by rw [sendL, if_pos h1, oL_01, oL_upd]⟩
theorem oL_send10 (m : List Int) (k : Nat) (h : k < 64) : sendR 2 (oL m k) kC0 1 0 = 0 ∧ sendL 2 (oL m k) kC0 1 0 (1000 + (k : Int)) = oL m (k + 1) := by
  have h1 : sendR 2 (oL m k) kC0 1 0 = 0 := by
    unfold sendR
    rw [if_neg (by decide), if_neg (by decide), if_neg (by rw [oL_10]; simp; omega)]
  exact ⟨h1, by rw [sendL, if_pos h1, oL_10, oL_upd10]⟩
theorem oL_rows (m : List Int) (k : Nat) : lenRows (oL m k) 2 2 = m.length + k := by
  simp [lenRows, lenRow, oL]
theorem oL_len (m : List Int) (k : Nat) (hm : m.length ≤ 1000) (hk : k ≤ 1000) : ∀ a b, (oL m k a b).length ≤ 1000 := fun a b => by
  unfold oL
  split
  · exact hm
  · split
    · simpa using hk
    · simp
/-- the first numbers -/
def upto (i : Nat) : List Int := (List.range i).map (fun j : Nat => (j : Int))
theorem upto_len (i : Nat) : (upto i).length = i := by simp [upto]
theorem upto_succ (i : Nat) : upto (i + 1) = upto i ++ [(i : Int)] := by simp [upto, List.range_succ]
theorem map_erase (m : List Int) (k : Nat) : (m.map (Value.int .i64)).eraseIdx k = (m.eraseIdx k).map (Value.int .i64) := by simp [List.eraseIdx_eq_take_drop_succ]
theorem enumG_snd {α : Type} (l : List α) (k : Nat) : (enumG l k).map (·.2) = l := by
  induction l generalizing k with
  | nil => rfl
  | cons x r ih => simp [enumG, ih]
end Go.XL
namespace Go.Proofs.Ytbjipgignnaomaa
open Go.RowKit Go.Shelf Go.XL
set_option linter.unusedVariables false
set_option linter.unusedSimpArgs false
attribute [local go_sem] Oper.semAt_some

/-- the net has mN (and k), the slice v has mS -/
def OI (w : World) (p b1 b2 : Nat) (mN mS : List Int) (k c : Nat) (v : Value) (W : World) : Prop :=
  (∃ V, NtI W p b1 b2 2 c (oL mN k) kC0 V ∧ ∀ g, NetOwn p b1 b2 V g → w.heap.size ≤ g ∧ v.ownBlock ≠ some g) ∧ Sl W 3 1 v mS.length (mS.map (Value.int .i64)) ∧ (∀ g, v.ownBlock = some g → w.heap.size ≤ g) ∧ Fr no w W
theorem OI.net {w : World} {p b1 b2 : Nat} {mS mN' : List Int} {k' c' : Nat} {v : Value} {W W' : World} (hS : Sl W 3 1 v mS.length (mS.map (Value.int .i64))) (hv : ∀ g, v.ownBlock = some g → w.heap.size ≤ g) (hF : Fr no w W) {V V' : Int → Int → Value}
    (hO : ∀ g, NetOwn p b1 b2 V g → w.heap.size ≤ g ∧ v.ownBlock ≠ some g) (hN : NtI W' p b1 b2 2 c' (oL mN' k') kC0 V') (hf : Fr (NetOwn p b1 b2 V) W W') (ho : ∀ g, NetOwn p b1 b2 V' g → NetOwn p b1 b2 V g ∨ W.heap.size ≤ g) : OI w p b1 b2 mN' mS k' c' v W' := by
  refine ⟨⟨V', hN, fun g hg => (ho g hg).elim (fun h => hO g h) (fun h => ⟨Nat.le_trans hF.size h, fun e => by have := hS.lt g e; omega⟩)⟩, hS.fr hf (fun g hg e => (hO g e).2 hg), hv, hF.trans hf (fun i hi e => by have := (hO i e).1; omega)⟩
theorem OI.app {w : World} {p b1 b2 : Nat} {mN mS mS' : List Int} {k c : Nat} {v v' : Value} {W W' : World} (h : OI w p b1 b2 mN mS k c v W) (hs : Sl W' 3 1 v' mS'.length (mS'.map (Value.int .i64))) (hf : Fr (fun g => v.ownBlock = some g) W W') (ho : v'.ownBlock = v.ownBlock ∨ ∀ g, v'.ownBlock = some g → W.heap.size ≤ g) : OI w p b1 b2 mN mS' k c v' W' := by
  obtain ⟨⟨V, hN, hO⟩, hS, hv, hF⟩ := h
  refine ⟨⟨V, hN.fr hf (fun g hg e => (hO g hg).2 e), fun g hg => ⟨(hO g hg).1, fun e => ?_⟩⟩, hs, fun g hg => ?_, hF.trans hf (fun i hi e => by have := hv i e; omega)⟩
  · rcases ho with q | q
    · exact (hO g hg).2 (by rw [← q]; exact e)
    · have := q g e; have := hN.lt g hg; omega
  · rcases ho with q | q
    · exact hv g (by rw [← q]; exact hg)
    · exact Nat.le_trans hF.size (q g hg)
theorem OI.fr {w : World} {p b1 b2 : Nat} {mN mS : List Int} {k c : Nat} {v : Value} {W W' : World} (h : OI w p b1 b2 mN mS k c v W) (hf : Fr no W W') : OI w p b1 b2 mN mS k c v W' := by
  obtain ⟨⟨V, hN, hO⟩, hS, hv, hF⟩ := h
  exact ⟨⟨V, hN.fr0 hf, hO⟩, hS.fr hf (fun _ _ f => f), hv, hF.trans' hf⟩

set_option maxRecDepth 100000 in
set_option maxHeartbeats 8000000 in
theorem order_any (z : Int) (v : Value) (zs : List Int) (K : Nat) (w : World) (hv : Rd w 1 v K (zs.map (Value.int .u8))) (hz : ∀ x ∈ zs, 0 ≤ x ∧ x ≤ 255) (hz0 : 0 ≤ z) (hz1 : z ≤ 255) :
    Calls Try.prog 3 #[.int .u8 z, v] w fun e w' => e = .returned (.bool true) ∧ Fr no w w' := by
  obtain ⟨po, pc, rfl, hpc, hpm⟩ := hv.cap
  have hzl : zs.length = K := by simpa using hv.1
  have Hv := Lib.hid hv
  have Hz := Lib.hid hz
  have Hzl := Lib.hid hzl
  clear hv hz hzl
  obtain ⟨k, hk, hk64⟩ : ∃ k : Nat, z % 64 = (k : Int) ∧ k < 64 := ⟨(z % 64).toNat, by omega, by omega⟩
  have hkt : z.tmod 64 = k := by rw [Int.tmod_eq_emod_of_nonneg hz0]; exact hk
  go_enter Try.func3, Try.ntmps3
  go_wp2_with fail
  refine (known_any w).mono ?_
  rintro e w1 ⟨rfl, hf1⟩
  have F1 := Lib.hid hf1
  clear hf1
  by_cases hL : 100 < K
  · go_wp2
    go_ret
    exact ⟨rfl, F1.out⟩
  · have hd : decide ((100 : Int) < (K : Int)) = false := decide_eq_false (by omega)
    go_wp2_with fail
    refine (netNewI 2 w1 (by decide) (by decide)).mono ?_
    rintro e w2 ⟨p, b1, b2, rfl, hN2, hf2, hown⟩
    have hI : OI w p b1 b2 (upto 0) (upto 0) 0 0 (.slice none 0 0) w2 := by
      refine ⟨⟨_, ?_, fun g hg => ⟨Nat.le_trans F1.out.size (hown g hg), by simp [Value.ownBlock]⟩⟩, by simpa [upto] using Sl.nil _ _ _, by simp [Value.ownBlock], F1.out.trans' hf2⟩
      have e1 : oL (upto 0) 0 = fun _ _ => [] := by funext a b; simp [oL, upto]
      rw [e1]
      exact hN2
    have HI := Lib.hid hI
    clear hN2 hf2 hown hI F1
    go_wp2_with fail
    go_loopw [8, 9] (fun mv iv wr => ∃ (i : Nat) (bo : Option Addr) (bc : Nat), i ≤ k ∧ iv = .int .i64 i ∧ mv = .slice bo i bc ∧ i ≤ bc ∧ bc ≤ 9223372036854775807 ∧ Hid (OI w p b1 b2 (upto i) (upto i) i (2 * i) mv wr)) (fun _ iv _ => k - (intOf iv).toNat)
    case atStart => exact ⟨0, none, 0, Nat.zero_le _, rfl, rfl, Nat.le_refl _, by decide, HI⟩
    case round =>
      obtain ⟨i, bo, bc, hi, rfl, rfl, hbc1, hbc2, hI⟩ := hrel
      clear HI
      by_cases hik : i < k
      · obtain ⟨⟨V, hN, hO⟩, hS, hvv, hF⟩ := hI.out
        have h1 := oL_send (upto i) i (i : Int) (by rw [upto_len]; omega)
        have hs1 := sendI 0 1 (i : Int) hN (by omega) (by omega) (by omega)
        rw [h1.1, h1.2, ← upto_succ] at hs1
        have Hs1 := Lib.hid hs1
        have HO := Lib.hid hO
        have HS := Lib.hid hS
        have Hvv := Lib.hid hvv
        have HF := Lib.hid hF
        clear h1 hs1 hN hO hS hvv hF hI
        go_wp2_with fail
        refine Hs1.out.mono ?_
        rintro e w3 ⟨rfl, V3, hN3, hf3, ho3⟩
        have I3 := Lib.hid (OI.net HS.out Hvv.out HF.out HO.out hN3 hf3 ho3)
        clear hN3 hf3 ho3 Hs1 HO HS Hvv HF
        obtain ⟨⟨V, hN, hO⟩, hS, hvv, hF⟩ := I3.out
        have h1 := oL_send10 (upto (i + 1)) i (by omega)
        have hs1 := sendI 1 0 (1000 + (i : Int)) hN (by omega) (by omega) (by omega)
        rw [h1.1, h1.2] at hs1
        have Hs1 := Lib.hid hs1
        have HO := Lib.hid hO
        have HS := Lib.hid hS
        have Hvv := Lib.hid hvv
        have HF := Lib.hid hF
        clear h1 hs1 hN hO hS hvv hF I3
        go_wp2_with fail
        refine Hs1.out.mono ?_
        rintro e w4 ⟨rfl, V4, hN4, hf4, ho4⟩
        have I4 := Lib.hid (OI.net HS.out Hvv.out HF.out HO.out hN4 hf4 ho4)
        clear hN4 hf4 ho4 Hs1 HO HS Hvv HF
        obtain ⟨i0, hi0, hz0', hz1', hz2'⟩ := info_parts (show (Try.prog.info? 3).map (fun i => (i.zero, i.size, i.bytes)) = some (some (.int .i64 0), 1, 8) by kernel_rfl)
        have hS4 := I4.out.2.1
        rw [upto_len] at hS4
        have HS4 := Lib.hid hS4
        clear hS4
        go_wp2_with (at_builtin; refine wpList_append_one w4 (.int .i64 i) 3 rfl _ _ 28 rfl 3 i0 (.int .i64 0) 8 Try.underlying28 hi0 hz0' hz1' hz2' rfl _ i _ rfl HS4.out rfl rfl (by unfold maxLen; omega) (by omega) ?_)
        intro ao5 cap5 w5 hs5 hf5 ho5 _
        have hcp := hs5.cap
        obtain ⟨_, _, he5, hc5, hm5⟩ := hcp
        cases he5
        have I5 : Hid (OI w p b1 b2 (upto (i + 1)) (upto (i + 1)) (i + 1) (2 * (i + 1)) (.slice ao5 (i + 1) cap5) w5) := by
          have := I4.out.app (mS' := upto (i + 1)) (v' := .slice ao5 (i + 1) cap5) (by rw [upto_len, upto_succ]; simpa using hs5) hf5 ho5
          exact Lib.hid this
        clear hs5 hf5 ho5 I4 HS4 hi0 hz0' hz1' hz2'
        go_wp2
        go_roundw
        case rel => exact ⟨i + 1, ao5, cap5, by omega, by go_num, rfl, hc5, hm5, I5⟩
        case measure => simp [intOf]; omega
      · obtain rfl : i = k := by omega
        have HI2 : Hid (∃ m : List Int, m.length = i ∧ OI w p b1 b2 m m i (2 * i + 0) (.slice bo i bc) wr) := Lib.hid ⟨upto i, upto_len i, hI.out⟩
        clear hI
        go_wp2_with fail
        go_loopw [8, 10] (fun mv jv wx => ∃ (j n : Nat) (bo : Option Addr) (bc : Nat), j ≤ K ∧ n ≤ 64 ∧ jv = .int .i64 j ∧ mv = .slice bo n bc ∧ n ≤ bc ∧ bc ≤ 9223372036854775807 ∧ Hid (∃ m : List Int, m.length = n ∧ OI w p b1 b2 m m i (2 * i + j) (.slice bo n bc) wx)) (fun _ jv _ => K - (intOf jv).toNat)
        case atStart => exact ⟨0, i, bo, bc, Nat.zero_le _, by omega, rfl, rfl, hbc1, hbc2, HI2⟩
        case round =>
          obtain ⟨j, n, bo, bc, hj, hn64, rfl, rfl, hbc1, hbc2, hI⟩ := hrel
          clear HI2
          by_cases hjK : j < K
          · obtain ⟨m, hm, hOI⟩ := hI.out
            clear hI
            obtain ⟨⟨V, hN, hO⟩, hS, hvv, hF⟩ := hOI
            obtain ⟨g, off, pc', he, _, _, hgx⟩ := Hv.out.form (by omega)
            cases he
            have hjz : j < zs.length := by rw [Hzl.out]; exact hjK
            obtain ⟨x, hxj⟩ : ∃ x, zs[j]? = some x := ⟨zs[j], by simp [hjz]⟩
            obtain ⟨hx0, hx255⟩ := Hz.out x (List.mem_of_getElem? hxj)
            have hcw : w.cell? ⟨g, off + j, none⟩ = some (.int .u8 x) := hgx j _ (by rw [List.getElem?_map, hxj]; rfl)
            have hgw : g < w.heap.size := World.block_lt_of_cell? w _ hcw
            have hcx : wr.cell? ⟨g, off + j, none⟩ = some (.int .u8 x) := hF.cell hcw (fun f => f)
            clear hcw
            clear hgx hjz hxj
            by_cases hn0 : n = 0
            · subst hn0
              have hm0 : m = [] := List.eq_nil_of_length_eq_zero hm
              subst hm0
              have Ht := Lib.hid (takeNoI 0 1 x hN (by omega) (by omega) (.inl (oL_01 [] i)))
              have HF := Lib.hid hF
              clear hN hO hS hvv hF hm
              go_wp2_with fail
              refine Ht.out.mono ?_
              rintro e w3 ⟨rfl, hf3⟩
              have HF3 := Lib.hid (HF.out.trans' hf3)
              clear hf3 Ht HF
              go_wp2
              go_ret
              exact ⟨rfl, HF3.out⟩
            · obtain ⟨pp, hpp⟩ : ∃ pp : Nat, x % (n : Int) = pp := ⟨(x % (n : Int)).toNat, by have := Int.emod_nonneg x (show (n : Int) ≠ 0 by omega); omega⟩
              have hppn : pp < n := by have := Int.emod_lt_of_pos x (show (0 : Int) < n by omega); omega
              have hppt : x.tmod (n : Int) = pp := by rw [Int.tmod_eq_emod_of_nonneg hx0]; exact hpp
              have hmx : max x 0 = x := Int.max_eq_left hx0
              obtain ⟨y, hy⟩ : ∃ y, m[pp]? = some y := ⟨m[pp]'(by omega), by simp [show pp < m.length by omega]⟩
              have htk := takeYesI 0 1 x pp y hN (by omega) (by omega) (by omega) rfl (by rw [oL_01, hmx, hm]; exact hpp) (by rw [oL_01]; exact hy) (by rw [oL_01]; omega)
              rw [oL_01, oL_upd] at htk
              have hSf := hS.form (by omega)
              rw [hm] at hSf
              obtain ⟨g2, off2, bc', ds2, he2, _, _, _, _, _⟩ := hSf
              cases he2
              have Ht := Lib.hid htk
              have HO := Lib.hid hO
              have HS := Lib.hid hS
              have Hvv := Lib.hid hvv
              have HF := Lib.hid hF
              have Hm := Lib.hid hm
              have Hy := Lib.hid hy
              clear htk hN hO hS hvv hF hm hy hmx
              have hn0' : ((n : Int) == 0) = false := by simp; omega
              have hmax : max (n : Int) 1 = n := Int.max_eq_left (by omega)
              go_wp2_with fail
              refine Ht.out.mono ?_
              rintro e w3 ⟨rfl, V3, hN3, hf3, ho3⟩
              have hcx3 : w3.cell? ⟨g, off + j, none⟩ = some (.int .u8 x) := hf3.cell hcx (fun e => by have := (HO.out g e).1; omega)
              have I3 := Lib.hid (OI.net HS.out Hvv.out HF.out HO.out hN3 hf3 ho3)
              clear hN3 hf3 ho3 Ht HO HS Hvv HF hcx
              have hS3 := I3.out.2.1
              rw [Hm.out] at hS3
              obtain ⟨_, _, _, ds3, he3, _, _, hg3, _, hc3⟩ := hS3.form (by omega)
              cases he3
              have hcy : w3.cell? ⟨g2, off2 + pp, none⟩ = some (.int .i64 y) := cell_of_block hg3 (hc3 pp _ (by rw [List.getElem?_map, Hy.out]; rfl))
              clear hg3 hc3
              have hw1 : IntKind.i64.wrap ((pp : Int) + 1) = ((pp + 1 : Nat) : Int) := by rw [IntWalk.i64_in _ (by omega)]; omega
              obtain ⟨i0, hi0, hz0', hz1', hz2'⟩ := info_parts (show (Try.prog.info? 3).map (fun i => (i.zero, i.size, i.bytes)) = some (some (.int .i64 0), 1, 8) by kernel_rfl)
              have q1 := run_cutTo (P := Try.prog) 28 3 i0 1 Try.underlying28 hi0 hz1' ⟨g2, off2, none⟩ n bc pp (by omega)
              obtain ⟨ao2, he4, q2, q3⟩ := run_cutFrom (P := Try.prog) 28 3 i0 1 Try.underlying28 hi0 hz1' .i64 (some ⟨g2, off2, none⟩) n bc (pp + 1) (by omega) ((pp + 1 : Nat) : Int) rfl
              obtain ⟨d1, e1, d2, e2, w4, w5, r1, r2, hO5⟩ := run_cutOut (P := Try.prog) w3.drew 28 3 i0 (.int .i64 0) 8 Try.underlying28 hi0 hz0' hz1' hz2' rfl (some ⟨g2, off2, none⟩) n bc pp _ (hS3.fr ((Fr.refl no w3).drewN 1) (fun _ _ f => f)) (by simp [Value.oneCell']) hppn (by omega) ao2 he4 28 28
              have hcp5 := hO5.cap
              obtain ⟨_, _, he5, hc5, hm5⟩ := hcp5
              cases he5
              have I5 : Hid (∃ m : List Int, m.length = n - 1 ∧ OI w p b1 b2 m m i (2 * i + (j + 1)) (.slice d2 (n - 1) e2) w5) := by
                have hln : (m.eraseIdx pp).length = n - 1 := by rw [List.length_eraseIdx_of_lt (by rw [Hm.out]; exact hppn), Hm.out]
                have h1 : OI w p b1 b2 (m.eraseIdx pp) m i (2 * i + (j + 1)) (.slice (some ⟨g2, off2, none⟩) n bc) w3.drew := I3.out.fr ((Fr.refl no w3).drewN 1)
                have h2 := h1.app (mS' := m.eraseIdx pp) (v' := .slice d2 (n - 1) e2) (by rw [hln]; have := hO5.sl; rw [map_erase] at this; exact this) (hO5.fr.mono (fun _ _ f => f.elim)) (.inr hO5.fresh)
                exact Lib.hid ⟨_, hln, h2⟩
              clear hS3 hO5 I3 hi0 hz0' hz1' hz2' he4
              go_wp2_with fail
              refine wp_held (fun _ => True) (by kernel_rfl) ?_ (fun hHeld => ?_)
              · trivial
              refine held_take (v := ?_) 1 rfl (by kernel_rfl) (.inl ⟨by rfl, ?_⟩) hHeld ?_
              rotate_left
              · intro w hSw; (try dsimp only at hSw); first | (go_simp; done) | (go_simp; with_reducible rfl)
              try simp only [Act.put, List.setIfInBounds_toArray, List.set_cons_zero, List.set_cons_succ]
              refine held_take (v := ?_) 2 rfl (by kernel_rfl) (.inl ⟨by rfl, ?_⟩) hHeld ?_
              rotate_left
              · intro w hSw; (try dsimp only at hSw); first | (go_simp; done) | (go_simp; with_reducible rfl)
              try simp only [Act.put, List.setIfInBounds_toArray, List.set_cons_zero, List.set_cons_succ]
              refine held_take (v := ?_) 3 rfl (by kernel_rfl) (.inl ⟨by rfl, ?_⟩) hHeld ?_
              rotate_left
              · intro w hSw; (try dsimp only at hSw); first | (go_simp; done) | (go_simp; with_reducible rfl)
              try simp only [Act.put, List.setIfInBounds_toArray, List.set_cons_zero, List.set_cons_succ]
              refine held_take (v := ?_) 5 rfl (by kernel_rfl) (.inl ⟨by rfl, ?_⟩) hHeld ?_
              rotate_left
              · intro w hSw; (try dsimp only at hSw); first | (go_simp; done) | (go_simp; with_reducible rfl)
              try simp only [Act.put, List.setIfInBounds_toArray, List.set_cons_zero, List.set_cons_succ]
              refine held_take (v := ?_) 6 rfl (by kernel_rfl) (.inl ⟨by rfl, ?_⟩) hHeld ?_
              rotate_left
              · intro w hSw; (try dsimp only at hSw); first | (go_simp; done) | (go_simp; with_reducible rfl)
              try simp only [Act.put, List.setIfInBounds_toArray, List.set_cons_zero, List.set_cons_succ]
              refine held_take (v := (.int .i64 ((pp + 1 : Nat) : Int))) 7 rfl (by kernel_rfl) (.inl ⟨by rfl, ?_⟩) hHeld ?_
              · intro w hSw; (try dsimp only at hSw); go_simp
              try simp only [Act.put, List.setIfInBounds_toArray, List.set_cons_zero, List.set_cons_succ]
              refine held_take (v := (.slice ao2 (n - (pp + 1)) (bc - (pp + 1)))) 8 rfl (by kernel_rfl) (.inl ⟨by rfl, ?_⟩) hHeld ?_
              · intro w hSw; (try dsimp only at hSw); exact exec_slice rfl (q2 _)
              try simp only [Act.put, List.setIfInBounds_toArray, List.set_cons_zero, List.set_cons_succ]
              refine held_call 0 rfl (by kernel_rfl) (fun K hK => ?_)
              go_simp
              skip
              refine hK.out _ _ ?_ (fun hHeld' => ?_)
              · trivial
              clear hK K hHeld
              have hHeld := hHeld'
              clear hHeld'
              try simp only [Act.put, List.setIfInBounds_toArray, List.set_cons_zero, List.set_cons_succ]
              refine held_call 4 rfl (by kernel_rfl) (fun K hK => ?_)
              rw [if_pos (by rfl)]
              refine wp_append rfl rfl rfl r1 ?_
              refine hK.out _ _ ?_ (fun hHeld' => ?_)
              · trivial
              clear hK K hHeld
              have hHeld := hHeld'
              clear hHeld'
              try simp only [Act.put, List.setIfInBounds_toArray, List.set_cons_zero, List.set_cons_succ]
              refine held_call 9 rfl (by kernel_rfl) (fun K hK => ?_)
              rw [if_pos (by rfl)]
              refine wp_append rfl rfl rfl r2 ?_
              refine hK.out _ _ ?_ (fun hHeld' => ?_)
              · trivial
              clear hK K hHeld
              have hHeld := hHeld'
              clear hHeld'
              try simp only [Act.put, List.setIfInBounds_toArray, List.set_cons_zero, List.set_cons_succ]
              refine held_take (v := ?_) 10 rfl (by kernel_rfl) (.inl ⟨by rfl, ?_⟩) hHeld ?_
              rotate_left
              · intro w hSw; (try dsimp only at hSw); first | (go_simp; done) | (go_simp; with_reducible rfl)
              try simp only [Act.put, List.setIfInBounds_toArray, List.set_cons_zero, List.set_cons_succ]
              refine held_done (by kernel_rfl) ?_
              try clear hHeld
              clear q1 q2 q3 r1 r2 hcy hw1 hcx3
              go_wp2
              go_roundw
              case rel => exact ⟨j + 1, n - 1, d2, e2, by omega, by omega, by go_num, rfl, hc5, hm5, I5⟩
              case measure => simp [intOf]; omega
          · obtain rfl : j = K := by omega
            obtain ⟨m, hm, hOI⟩ := hI.out
            have HOI := Lib.hid hOI
            have Hm := Lib.hid hm
            clear hI hOI hm
            go_wp2_with fail
            refine (wayI p 0 1 wr).mono ?_
            rintro e w9 ⟨rfl, hw9⟩
            obtain ⟨⟨V, hN, hO⟩, _, _, _⟩ := HOI.out
            obtain ⟨hpre, hf9⟩ := wayPreI (0 : Int) (1 : Int) hN hw9
            have Hit := Lib.hid (wayIterI wr.heap.size p b1 b2 2 (2 * i + j) (oL m i) kC0 V 0 1 (by omega) (by omega))
            have Hpre := Lib.hid hpre
            have H9 := Lib.hid (HOI.out.fr hf9)
            clear hw9 hN hO hpre hf9 HOI
            have hll : ((enumG (oL m i 0 1) 0).length : Int) ≤ 100 := by rw [enumG_length, oL_01, Hm.out]; omega
            go_wp2_with fail
            refine (law_pairs (enumG (oL m i 0 1) 0) 100 w9 (fun w => by kernel_rfl) (enters_of Try.func26 (by kernel_rfl) rfl) Hit.out (fun W hf => Hpre.out.fr hf (fun _ f => f.elim)) hll (by decide)).mono ?_
            rintro e w10 ⟨ao, ac, bo', bc', rfl, hA, hB, hf10, hfr⟩
            have H10 := Lib.hid (H9.out.fr hf10)
            rw [enumG_snd, oL_01, enumG_length] at hB
            rw [enumG_length, oL_01]
            have B10 := Lib.hid hB
            rw [Hm.out]
            clear hA hB hf10 hfr H9 Hpre Hit hll
            go_wp2_with fail
            have hint := law_ints (.slice bo' n bc') (.slice bo n bc) m m w10 (by rw [← Hm.out]; exact B10.out) (by rw [Hm.out]; have := H10.out.2.1; rw [Hm.out] at this; exact this.rd)
            rw [decide_eq_true rfl] at hint
            refine hint.mono ?_
            clear hint
            rintro e w11 ⟨rfl, hf11⟩
            have H11 := Lib.hid (H10.out.fr hf11)
            clear hf11 H10 B10
            obtain ⟨⟨V, hN, hO⟩, _, _, hF⟩ := H11.out
            have hlen := lenI (n := 2) hN (oL_len m i (by rw [Hm.out]; omega) (by omega))
            rw [oL_rows, Hm.out] at hlen
            have Hlen := Lib.hid hlen
            have HF := Lib.hid hF
            clear hlen hN hO hF H11
            have hcast : ((n + i : Nat) : Int) = (n : Int) + i := by omega
            go_wp2_with fail
            refine Hlen.out.mono ?_
            rintro e w12 ⟨rfl, hf12⟩
            have HF12 := Lib.hid (HF.out.trans' hf12)
            clear hf12 Hlen HF
            rw [hcast]
            clear hcast
            go_wp2
            go_ret
            exact ⟨rfl, HF12.out⟩
end Go.Proofs.Ytbjipgignnaomaa
