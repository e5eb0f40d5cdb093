/- The walk of DiskTwins. -/
import Derived.Test.YthlcbhpdbcnmjaaRoomR
namespace Go.XL
open Go.RowKit Go.Shelf
set_option linter.unusedVariables false
theorem RdX.next {X X' F : Nat → Prop} {W W' : World} {s : Value} {n : Nat} {xs : List Value} (h : RdX X W 1 s n xs) (hf : Fr F W W') (hF : ∀ g, g < W.heap.size → F g → X g) (hX : ∀ g, X' g → X g ∨ W.heap.size ≤ g) : RdX X' W' 1 s n xs := by
  refine ⟨(h.fr hf hF).rd, fun h0 g hg e => ?_⟩
  rcases hX g e with e | e
  · exact h.2 h0 g hg e
  · obtain ⟨g', off, cap, rfl, _, _, hc⟩ := h.1.form h0
    have hl := h.1.1
    have h1 : 0 < xs.length := by omega
    have h2 := World.block_lt_of_cell? W _ (hc 0 xs[0] (by simp [h1]))
    simp [Value.ownBlock] at hg h2
    omega
def D2 (p : Nat) (v : Value) (q : Nat) (u : Value) : Nat → Prop := fun g => dOwn p v g ∨ dOwn q u g
theorem RdX.one {Ts Td : TypeId} {W W' : World} {p q : Nat} {v v' u s : Value} {r : Int} {ls : List ByteArray} {l n : Nat} {xs : List Value} (h : RdX (D2 p v q u) W 1 s n xs) (k : DStep Ts Td W W' p v v' r ls l) : RdX (D2 p v' q u) W' 1 s n xs :=
  h.next k.fr (fun g _ e => .inl e) (fun g e => e.elim (fun e => (k.own g e).elim (fun e => .inl (.inl e)) .inr) (fun e => .inl (.inr e)))
theorem RdX.two {Ts Td : TypeId} {W W' : World} {p q : Nat} {v u u' s : Value} {r : Int} {ls : List ByteArray} {l n : Nat} {xs : List Value} (h : RdX (D2 p v q u) W 1 s n xs) (k : DStep Ts Td W W' q u u' r ls l) : RdX (D2 p v q u') W' 1 s n xs :=
  h.next k.fr (fun g _ e => .inr e) (fun g e => e.elim (fun e => .inl (.inl e)) (fun e => (k.own g e).elim (fun e => .inl (.inr e)) .inr))
theorem RdX.dstep {Ts Td : TypeId} {W W' : World} {p : Nat} {v v' s : Value} {r : Int} {ls : List ByteArray} {l n : Nat} {xs : List Value} (h : RdX (dOwn p v) W 1 s n xs) (k : DStep Ts Td W W' p v v' r ls l) : RdX (dOwn p v') W' 1 s n xs :=
  h.next k.fr (fun g _ e => e) (fun g e => k.own g e)
theorem RdX.fr0 {X : Nat → Prop} {W W' : World} {s : Value} {n : Nat} {xs : List Value} (h : RdX X W 1 s n xs) (hf : Fr no W W') : RdX X W' 1 s n xs := h.fr hf (fun _ _ f => f.elim)
/-- a slice that has just been made -/
theorem Rd.fresh {X : Nat → Prop} {W W' : World} {s : Value} {n : Nat} {xs : List Value} (h : Rd W' 1 s n xs) (hX : ∀ g, X g → g < W.heap.size) (hs : ∀ g, s.ownBlock = some g → W.heap.size ≤ g) : RdX X W' 1 s n xs :=
  ⟨h, fun _ g hg e => by have := hX g e; have := hs g hg; omega⟩
theorem Dk2.lt {Ts Td Te : TypeId} {w W : World} {p q n1 n2 : Nat} {v u : Value} {r1 r2 : Int} {l1 l2 : List ByteArray} (h : Dk2 Ts Td Te w W p v r1 l1 n1 q u r2 l2 n2) : ∀ g, D2 p v q u g → g < W.heap.size := fun g hg => hg.elim (h.one.st.lt g) (h.two.st.lt g)

/-- a line of one letter -/
def twS (z : Int) : ByteArray := strOfNums [97 + z % 26]
theorem twS_size (z : Int) : (twS z).size = 1 := by rw [twS, strOfNums_size]; rfl
theorem twS_nl (z : Int) : hasNl (twS z) = false := by
  refine hasNl_none (fun k h => ?_)
  rw [twS, strOfNums_data] at h
  cases k with
  | zero =>
    simp at h
    have h1 : 0 ≤ z % 26 := Int.emod_nonneg _ (by decide)
    have h2 : z % 26 < 26 := Int.emod_lt_of_pos _ (by decide)
    generalize z % 26 = y at *
    obtain ⟨m, rfl⟩ := Int.eq_ofNat_of_zero_le h1
    have h3 : m < 26 := by omega
    have h4 : (97 + (m : Int)).toNat = 97 + m := by omega
    rw [h4] at h
    have h5 := congrArg UInt8.toNat h
    simp at h5
    omega
  | succ k => simp at h
theorem twS_used (l : List Int) : dUsed (l.map twS) = 2 * l.length := by
  induction l with
  | nil => rfl
  | cons z r ih => simp only [List.map_cons, dUsed, ih, twS_size, List.length_cons]; omega
theorem twS_write (l : List Int) (z : Int) (h : l.length ≤ 20) : dWriteR 10000 (l.map twS) (twS z) = 0 ∧ dWriteL 10000 (l.map twS) (twS z) = l.map twS ++ [twS z] := by
  have h1 : dWriteR 10000 (l.map twS) (twS z) = 0 := by rw [dWriteR, twS_nl, if_neg (by decide), twS_size, twS_used, if_neg (by omega)]
  exact ⟨h1, by rw [dWriteL, h1, if_pos rfl]⟩
abbrev kNew : ByteArray := ⟨#[110, 101, 119]⟩
theorem new_write (l : List ByteArray) (h : dUsed l ≤ 40) : dWriteR 10000 l kNew = 0 ∧ dWriteL 10000 l kNew = l ++ [kNew] := by
  have h1 : dWriteR 10000 l kNew = 0 := by rw [dWriteR, show hasNl kNew = false by decide +kernel, if_neg (by decide), show kNew.size = 3 from rfl, if_neg (by omega)]
  exact ⟨h1, by rw [dWriteL, h1, if_pos rfl]⟩
theorem crash_zero (l : List ByteArray) (k : Nat) : crashN l k 0 = k := by rw [crashN, crashFrom_neg _ _ (by decide), Nat.add_zero]
end Go.XL
namespace Go.Proofs.Ythlcbhpdbcnmjaa
open Go.RowKit Go.Shelf Go.XL
set_option linter.unusedVariables false
set_option linter.unusedSimpArgs false
attribute [local go_sem] Oper.semAt_some

set_option maxRecDepth 100000 in
set_option maxHeartbeats 8000000 in
theorem twins_any (r : Int) (vl : Value) (zs : List Int) (w : World) (hr0 : 0 ≤ r) (hr1 : r ≤ 255) (hl : Rd w 1 vl zs.length (zs.map (Value.int .u8))) (hz : ∀ z ∈ zs, 0 ≤ z ∧ z ≤ 255) :
    Calls Try.prog 7 #[vl, .int .u8 r] w fun e w' => e = .returned (.bool true) ∧ Fr no w w' := by
  obtain ⟨ao, cap, rfl, hc1, hm1⟩ := hl.cap
  have Hl := Lib.hid hl
  have Hz := Lib.hid hz
  clear hl hz
  generalize hn : zs.length = n at *
  have Hn := Lib.hid hn
  clear hn
  by_cases h40 : (20 : Int) < n
  · go_enter Try.func7, Try.ntmps7
    go_wp2_with fail
    refine (known_any w).mono ?_
    rintro e w0 ⟨rfl, hf0⟩
    have F0 := Lib.hid hf0
    clear hf0
    go_wp2
    go_ret
    exact ⟨rfl, F0.out⟩
  have hn20 : n ≤ 20 := by omega
  obtain ⟨k, hk⟩ : ∃ k : Nat, r % ((n : Int) + 1) = k := Int.eq_ofNat_of_zero_le (Int.emod_nonneg _ (by omega))
  have hkn : k ≤ n := by have := Int.emod_lt_of_pos r (show (0 : Int) < (n : Int) + 1 by omega); omega
  have hmod : r.tmod ((n : Int) + 1) = k := by rw [Int.tmod_eq_emod_of_nonneg hr0, hk]
  clear hk
  go_enter Try.func7, Try.ntmps7
  go_wp2_with fail
  refine (known_any w).mono ?_
  rintro e w0 ⟨rfl, hf0⟩
  have F0 := Lib.hid hf0
  clear hf0
  go_wp2_with fail
  refine (dNewS 10000 w0 w F0.out (by decide) (by decide)).mono ?_
  rintro e w1 ⟨p, v1, rfl, hN⟩
  have N1 := Lib.hid hN
  clear hN F0
  go_wp2_with fail
  go_loopw [8] (fun iv wr => ∃ (i : Nat) (v : Value), i ≤ n ∧ iv = .int .i64 i ∧ Hid (DkO w wr p v 10000 ((zs.take i).map twS) (if i < k then 0 else k))) (fun iv _ => n - (intOf iv).toNat)
  case atStart =>
    refine ⟨0, v1, Nat.zero_le _, rfl, ?_⟩
    rw [show (if 0 < k then 0 else k) = 0 by split <;> omega]
    exact N1
  case round =>
    obtain ⟨i, v, hi, rfl, hD⟩ := hrel
    generalize wr = W at *
    by_cases hlt : i < n
    · have hx1 : i < zs.length := by rw [Hn.out]; exact hlt
      have hrd := Hl.out.fr hD.out.fr (fun _ _ _ f => f)
      obtain ⟨g0, off0, c0', he, _, _, hx⟩ := hrd.form (by omega)
      cases he
      obtain ⟨z, hzk⟩ : ∃ z, zs[i]? = some z := ⟨zs[i], by simp [hx1]⟩
      obtain ⟨hz0, hz1⟩ := Hz.out z (List.mem_of_getElem? hzk)
      have hcx : W.cell? ⟨g0, off0 + i, none⟩ = some (.int .u8 z) := hx i _ (by simp [hzk])
      have htk : (zs.take (i + 1)).map twS = (zs.take i).map twS ++ [twS z] := by rw [List.take_add_one, hzk]; simp
      have hz26 : z.tmod 26 = z % 26 := Int.tmod_eq_emod_of_nonneg hz0
      obtain ⟨y, hy⟩ : ∃ y, z % 26 = y := ⟨_, rfl⟩
      have hy0 : 0 ≤ y := by omega
      have hy1 : y < 26 := by omega
      have Hy : Hid (twS z = strOfNums [97 + y]) := Lib.hid (by rw [twS, hy])
      rw [hy] at hz26
      have hlen : (zs.take i).length ≤ 20 := by rw [List.length_take]; omega
      obtain ⟨hw1, hw2⟩ := twS_write (zs.take i) z hlen
      rw [← htk] at hw2
      have hcv := run_convert_bytes_arg (P := Try.prog) (W.alloc (.cells #[.int .u8 (97 + y)] 5)) 53 5 Try.underlying53 Try.underlying5 W.heap.size 0 1 1 [97 + y] rfl (fun i hi => by
        obtain rfl : i = 0 := by omega
        exact cell_of_block (World.alloc_heap_new W _) rfl) 9 Try.underlying9
      have N2 := Lib.hid (hD.out.fr0 ((Fr.refl no W).alloc (.cells #[.int .u8 (97 + y)] 5)))
      have Hw1 := Lib.hid hw1
      have Hw2 := Lib.hid hw2
      clear hrd hx hx1 hy htk hw1 hw2 hD hzk
      go_wp2_with fail
      rw [← Hy.out]
      refine (dWriteS (twS z) (by rw [twS_size]; decide) N2.out.st).mono ?_
      rw [Hw1.out, Hw2.out]
      rintro e w3 ⟨rfl, v3, hS⟩
      have N3 := Lib.hid (N2.out.step hS)
      clear hS N2 hcv hcx
      have hlk : ((zs.take (i + 1)).map twS).length = i + 1 := by rw [List.length_map, List.length_take, Hn.out]; omega
      have Hlk := Lib.hid hlk
      clear hlk
      by_cases hik : i + 1 = k
      · have hik' : (i : Int) + 1 = k := by omega
        rw [if_pos (by omega)] at N3
        go_wp2_with fail
        refine (dSyncS N3.out.st).mono ?_
        rw [Hlk.out, hik]
        rintro e w4 ⟨x4, rfl, hS⟩
        have N4 := Lib.hid (N3.out.step hS)
        clear hS N3
        have N5 : Hid (DkO w w4 p v3 10000 ((zs.take (i + 1)).map twS) (if i + 1 < k then 0 else k)) := by rw [if_neg (by omega)]; exact hik ▸ N4
        clear N4
        go_wp2
        go_roundw
        case rel => exact ⟨i + 1, v3, by omega, by go_num, N5⟩
        case measure => simp [intOf]; omega
      · have hik' : ¬ (i : Int) + 1 = k := by omega
        have N5 : Hid (DkO w w3 p v3 10000 ((zs.take (i + 1)).map twS) (if i + 1 < k then 0 else k)) := by
          have e : (if i + 1 < k then 0 else k) = if i < k then 0 else k := by
            by_cases h : i < k
            · rw [if_pos h, if_pos (by omega)]
            · rw [if_neg h, if_neg (by omega)]
          rw [e]; exact N3
        clear N3
        go_wp2
        go_roundw
        case rel => exact ⟨i + 1, v3, by omega, by go_num, N5⟩
        case measure => simp [intOf]; omega
    · obtain rfl : i = n := by omega
      rw [if_neg (by omega), List.take_of_length_le (by rw [Hn.out]; exact Nat.le_refl _)] at hD
      have hL : (zs.map twS).length = i := by rw [List.length_map, Hn.out]
      have hU : dUsed (zs.map twS) = 2 * i := by rw [twS_used, Hn.out]
      have hT : ((zs.map twS).take k).length = k := by rw [List.length_take, hL]; omega
      have hUT : dUsed ((zs.map twS).take k) ≤ 40 := by have := dUsed_take (zs.map twS) k; omega
      obtain ⟨hw1, hw2⟩ := new_write _ hUT
      have hTN : ((zs.map twS).take k ++ [kNew]).length = k + 1 := by rw [List.length_append, hT]; rfl
      generalize zs.map twS = L at *
      have HL := Lib.hid hL
      have HT := Lib.hid hT
      have HTN := Lib.hid hTN
      have Hw1 := Lib.hid hw1
      have Hw2 := Lib.hid hw2
      have hsub : ((i - k : Nat) : Int) = (i : Int) - k := by omega
      have Hsub := Lib.hid hsub
      clear hL hU hT hUT hw1 hw2 hTN hsub hmod
      generalize hLT : L.take k = LT at *
      have HLT := Lib.hid hLT
      clear hLT
      go_wp2_with fail
      refine (dTwin hD.out.st).mono ?_
      rintro e w2 ⟨q, u, rfl, hS, hf, ho⟩
      have N2 : Hid (DkD w w2 p v 10000 L k q u 10000 L k) := Lib.hid (hD.out.two hS hf ho)
      clear hS hf ho hD
      go_wp2_with fail
      refine (dWaits N2.out.two.st).mono ?_
      rw [HL.out, Hsub.out]
      rintro e w3 ⟨rfl, hf⟩
      have N3 := Lib.hid (N2.out.fr0 hf)
      clear hf N2
      go_wp2_with fail
      refine (dUsedC N3.out.two.st).mono ?_
      rintro e w4 ⟨rfl, hf⟩
      have N4 := Lib.hid (N3.out.fr0 hf)
      clear hf N3
      go_wp2_with fail
      refine (dUsedC N4.out.one.st).mono ?_
      rintro e w5 ⟨rfl, hf⟩
      have N5 := Lib.hid (N4.out.fr0 hf)
      clear hf N4
      go_wp2_with fail
      refine (dLinesW N5.out.two.st).mono ?_
      rintro e w6 ⟨c, rfl, hf, hc, _⟩
      have N6 := Lib.hid (N5.out.fr0 hf)
      have C6 := Lib.hid hc
      clear hf hc N5
      go_wp2_with fail
      refine (law_linesD N6.out.two.st C6.out 30 i HL.out (by omega) (by decide)).mono ?_
      rintro e w7 ⟨ao7, ac7, rfl, hrd, hf, hfs⟩
      have A7 := Lib.hid (hrd.fresh N6.out.lt hfs)
      have N7 := Lib.hid (N6.out.fr0 hf)
      clear hf hrd hfs C6 N6
      go_wp2_with fail
      refine (dCrashS 0 (by decide) N7.out.two.st).mono ?_
      rw [crash_zero, HLT.out]
      rintro e w8 ⟨x8, u8, rfl, hS⟩
      have A8 := Lib.hid (A7.out.two hS)
      have N8 : Hid (DkD w w8 p v 10000 L k q u8 10000 LT k) := Lib.hid (N7.out.step2 hS)
      clear hS A7 N7
      go_wp2_with fail
      refine (dWriteS kNew (by decide) N8.out.two.st).mono ?_
      rw [Hw1.out, Hw2.out]
      rintro e w9 ⟨rfl, u9, hS⟩
      have A9 := Lib.hid (A8.out.two hS)
      have N9 := Lib.hid (N8.out.step2 hS)
      clear hS A8 N8
      go_wp2_with fail
      refine (dLinesW N9.out.one.st).mono ?_
      rintro e w10 ⟨c, rfl, hf, hc, _⟩
      have N10 := Lib.hid (N9.out.fr0 hf)
      have A10 := Lib.hid (A9.out.fr0 hf)
      have C10 := Lib.hid hc
      clear hf hc N9 A9
      go_wp2_with fail
      refine (law_linesD N10.out.one.st C10.out 30 i HL.out (by omega) (by decide)).mono ?_
      rintro e w11 ⟨ao11, ac11, rfl, hrd, hf, hfs⟩
      have B11 := Lib.hid (hrd.fresh N10.out.lt hfs)
      have A11 := Lib.hid (A10.out.fr0 hf)
      have N11 := Lib.hid (N10.out.fr0 hf)
      clear hf hrd hfs C10 N10 A10
      go_wp2_with fail
      refine (dSyncS N11.out.one.st).mono ?_
      rw [HL.out]
      rintro e w12 ⟨x12, rfl, hS⟩
      have A12 := Lib.hid (A11.out.one hS)
      have B12 := Lib.hid (B11.out.one hS)
      have N12 : Hid (DkD w w12 p v 10000 L i q u9 10000 (LT ++ [kNew]) k) := Lib.hid (N11.out.step hS)
      clear hS A11 B11 N11
      go_wp2_with fail
      refine (law_same _ _ L L w12 (by rw [HL.out]; exact A12.out.rd) (by rw [HL.out]; exact B12.out.rd)).mono ?_
      rw [decide_eq_true (rfl : L = L)]
      rintro e w13 ⟨rfl, hf⟩
      have N13 := Lib.hid (N12.out.fr0 hf)
      clear hf N12 A12 B12
      go_wp2_with fail
      refine (dLen N13.out.two.st).mono ?_
      rw [HTN.out]
      rintro e w' ⟨rfl, rfl⟩
      have hk1 : ((k + 1 : Nat) : Int) = (k : Int) + 1 := by omega
      go_wp2_with fail
      refine (dLen N13.out.one.st).mono ?_
      rw [HL.out]
      rintro e w' ⟨rfl, rfl⟩
      go_wp2_with fail
      refine (dWaits N13.out.two.st).mono ?_
      rw [HTN.out, show k + 1 - k = 1 by omega]
      rintro e w14 ⟨rfl, hf⟩
      have N14 := Lib.hid (N13.out.fr0 hf)
      clear hf N13
      go_wp2_with fail
      refine (dWaits N14.out.one.st).mono ?_
      rw [HL.out, Nat.sub_self]
      rintro e w15 ⟨rfl, hf⟩
      have F15 := Lib.hid (N14.out.fr0 hf).one.fr
      clear hf N14
      go_wp2
      go_ret
      exact ⟨rfl, F15.out⟩
end Go.Proofs.Ythlcbhpdbcnmjaa
