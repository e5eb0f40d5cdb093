/- The walk of DiskRoom. -/
import Derived.Test.YthlcbhpdbcnmjaaDiskS
import Derived.Laws.BytesArg
import Derived.Laws.OwnMore
import Derived.Lib.IndexLaws
namespace Go.XL
open Go.RowKit Go.Shelf
theorem hasNl_none {s : ByteArray} (h : ∀ k : Nat, s.data.toList[k]? ≠ some 10) : hasNl s = false := by
  unfold hasNl
  rw [decide_eq_false_iff_not]
  intro h0
  obtain ⟨o, ho⟩ := Int.eq_ofNat_of_zero_le h0
  exact h o (Lib.indexByte_some ho).1
theorem xs_size (m : Nat) : (strOfNums (List.replicate m 120)).size = m := by rw [strOfNums_size, List.length_replicate]
theorem xs_nl (m : Nat) : hasNl (strOfNums (List.replicate m 120)) = false := by
  refine hasNl_none (fun k h => ?_)
  rw [strOfNums_data, List.map_replicate, List.getElem?_replicate] at h
  split at h
  · revert h; decide
  · cases h
theorem xs_full {room : Int} {ls : List ByteArray} {m : Nat} (h : room - (dUsed ls : Nat) < (m : Int) + 1) : dWriteR room ls (strOfNums (List.replicate m 120)) = 6 ∧ dWriteL room ls (strOfNums (List.replicate m 120)) = ls := by
  have h1 : dWriteR room ls (strOfNums (List.replicate m 120)) = 6 := by rw [dWriteR, xs_nl, if_neg (by decide), xs_size, if_pos h]
  exact ⟨h1, by rw [dWriteL, h1, if_neg (by decide)]⟩
theorem xs_fits {room : Int} {ls : List ByteArray} {m : Nat} (h : ¬ room - (dUsed ls : Nat) < (m : Int) + 1) : dWriteR room ls (strOfNums (List.replicate m 120)) = 0 ∧ dWriteL room ls (strOfNums (List.replicate m 120)) = ls ++ [strOfNums (List.replicate m 120)] := by
  have h1 : dWriteR room ls (strOfNums (List.replicate m 120)) = 0 := by rw [dWriteR, xs_nl, if_neg (by decide), xs_size, if_neg h]
  exact ⟨h1, by rw [dWriteL, h1, if_pos rfl]⟩
theorem xs_used (ls : List ByteArray) (m : Nat) : dUsed (ls ++ [strOfNums (List.replicate m 120)]) = dUsed ls + (m + 1) := by rw [dUsed_append]; simp only [dUsed, xs_size, Nat.add_zero]
end Go.XL
namespace Go.Proofs.Ythlcbhpdbcnmjaa
open Go.RowKit Go.Shelf Go.XL
set_option linter.unusedVariables false
set_option linter.unusedSimpArgs false
attribute [local go_sem] Oper.semAt_some

/-- what holds in the inner loop: block g has 120 in its first j cells -/
def RmI (w W wr : World) (p : Nat) (v : Value) (k : Int) (ls : List ByteArray) (g m j : Nat) : Prop :=
  DkO w wr p v k ls 0 ∧ g = W.heap.size ∧ (0 < m → ∃ cs, wr.heap[g]? = some (.cells cs 5 (0, 0)) ∧ m ≤ cs.size ∧ ∀ i, i < j → cs[i]? = some (.int .u8 120))

set_option maxRecDepth 100000 in
set_option maxHeartbeats 8000000 in
theorem room_any (r : Int) (vl : Value) (zs : List Int) (w : World) (hr0 : 0 ≤ r) (hr1 : r ≤ 65535) (hl : Rd w 1 vl zs.length (zs.map (Value.int .u8))) (hz : ∀ z ∈ zs, 0 ≤ z ∧ z ≤ 255) :
    Calls Try.prog 5 #[.int .u16 r, vl] w fun e w' => e = .returned (.bool true) ∧ Fr no w w' := by
  obtain ⟨ao, cap, rfl, hc1, hm1⟩ := hl.cap
  have Hl := Lib.hid hl
  have Hz := Lib.hid hz
  have hmod : r.tmod 2000 = r % 2000 := Int.tmod_eq_emod_of_nonneg hr0
  clear hl hz
  obtain ⟨k, hk⟩ : ∃ k : Int, 1 + r % 2000 = k := ⟨_, rfl⟩
  have hk1 : 1 ≤ k := by omega
  have hk2 : k ≤ 2000 := by omega
  generalize hn : zs.length = n at *
  have Hn := Lib.hid hn
  clear hn
  go_enter Try.func5, Try.ntmps5
  go_wp2_with fail
  refine (known_any w).mono ?_
  rintro e w0 ⟨rfl, hf0⟩
  have F0 := Lib.hid hf0
  clear hf0
  by_cases h40 : (40 : Int) < n
  · go_wp2
    go_ret
    exact ⟨rfl, F0.out⟩
  have hn40 : n ≤ 40 := by omega
  go_wp2_with fail
  refine (dNewS k w0 w F0.out hk1 (by omega)).mono ?_
  rintro e w1 ⟨p, v1, rfl, hN⟩
  have N1 := Lib.hid hN
  clear hN F0 hmod hk
  go_wp2_with fail
  go_loopw [8, 9, 10] (fun lv nv iv wr => ∃ (i : Nat) (ls : List ByteArray) (v : Value), i ≤ n ∧ iv = .int .i64 i ∧ lv = .int .i64 (k - (dUsed ls : Nat)) ∧ nv = .int .i64 ls.length ∧ Hid (DkO w wr p v k ls 0)) (fun _ _ iv _ => n - (intOf iv).toNat)
  case atStart => exact ⟨0, [], v1, Nat.zero_le _, rfl, by simp [dUsed], rfl, N1⟩
  case round =>
    obtain ⟨i, ls, v, hi, rfl, rfl, rfl, hD⟩ := hrel
    generalize wr = W at *
    by_cases hlt : i < n
    · have hx1 : i < zs.length := by rw [Hn.out]; exact hlt
      have hrd := Hl.out.fr hD.out.fr (fun _ _ _ f => f)
      obtain ⟨g0, off0, c0', he, _, _, hx⟩ := hrd.form (by omega)
      cases he
      obtain ⟨z, hzk⟩ : ∃ z, zs[i]? = some z := ⟨zs[i], by simp [hx1]⟩
      obtain ⟨hz0, hz1⟩ := Hz.out z (List.mem_of_getElem? hzk)
      have hcx : W.cell? ⟨g0, off0 + i, none⟩ = some (.int .u8 z) := hx i _ (by simp [hzk])
      obtain ⟨m, rfl⟩ := Int.eq_ofNat_of_zero_le hz0
      obtain ⟨i0, hi0, hz0', hz1', hz2'⟩ := info_parts (show (Try.prog.info? 5).map (fun i => (i.zero, i.size, i.bytes)) = some (some (.int .u8 0), 1, 1) by kernel_rfl)
      obtain ⟨w2, hmk, ho, hg⟩ := run_makeSlice_full (P := Try.prog) W W.heap.size 53 5 i0 _ 1 Try.underlying53 hi0 hz0' hz1' .i64 .i64 m (by omega) (by rw [hz2']; omega) (by unfold maxLen; omega) (Nat.le_refl _)
      have hs := Sl.of_ownsRow ho
      have hf2 : Fr no W w2 := (Fr.refl no W).grown hg (fun _ h => by cases h)
      have hI : RmI w W w2 p v k ls W.heap.size m 0 := by
        refine ⟨hD.out.fr0 hf2, rfl, fun hm => ?_⟩
        obtain ⟨_, ao', cap', he, _, _, _, hc⟩ := hs
        cases he
        obtain ⟨g, off, cs, he, hb, hsz, _⟩ := hc hm
        cases he
        exact ⟨cs, hb, by omega, fun i hi => by omega⟩
      have HI := Lib.hid hI
      have HD := hD
      clear hrd hx hzk hx1 hi0 hz0' hz1' hz2' ho hg hs hf2 hI
      go_wp2_with fail
      go_loopw [12] (fun jv wr => ∃ (j : Nat), j ≤ m ∧ jv = .int .i64 j ∧ Hid (RmI w W wr p v k ls W.heap.size m j)) (fun jv _ => m - (intOf jv).toNat)
      case atStart => exact ⟨0, Nat.zero_le _, rfl, HI⟩
      case round =>
        obtain ⟨j, hj, rfl, hR⟩ := hrel
        by_cases hjm : j < m
        · obtain ⟨r1, r2, r3⟩ := hR.out
          obtain ⟨cs, hb, hsz, hcs⟩ := r3 (by omega)
          have hj2 : j < cs.size := by omega
          have hcj : wr.cell? ⟨W.heap.size, j, none⟩ = some cs[j] := cell_of_block hb (by simp [hj2])
          have hfj : wr.frozen? ⟨W.heap.size, j, none⟩ = false := frozen_of_block hb
          have hfin : Hid (RmI w W (wr.setCell ⟨W.heap.size, j, none⟩ (.int .u8 120)) p v k ls W.heap.size m (j + 1)) := by
            have hf : Fr (fun g => g = W.heap.size) wr (wr.setCell ⟨W.heap.size, j, none⟩ (.int .u8 120)) := (Fr.refl (fun g => g = W.heap.size) wr).setCell (p := ⟨W.heap.size, j, none⟩) (fun _ => rfl) _
            have hnot : ∀ g, dOwn p v g → g ≠ W.heap.size := fun g hg e => by have := HD.out.st.lt g hg; omega
            refine Lib.hid ⟨⟨r1.st.fr hf hnot, r1.fr.trans hf (fun i hi e => by have := HD.out.fr.size; omega), r1.own⟩, rfl, fun _ => ⟨_, heap_setC _ hb, by simpa using hsz, fun i hi => ?_⟩⟩
            rcases Nat.lt_succ_iff_lt_or_eq.1 hi with h | rfl
            · rw [Array.getElem?_setIfInBounds_ne (by omega)]; exact hcs i h
            · rw [Array.getElem?_setIfInBounds_self_of_lt hj2]
          generalize cs[j] = old at *
          clear r1 r2 r3 hb hsz hcs hj2 hR
          go_wp2
          go_roundw
          case rel => exact ⟨j + 1, by omega, by go_num, hfin⟩
          case measure => simp [intOf]; omega
        · obtain rfl : j = m := by omega
          obtain ⟨r1, r2, r3⟩ := hR.out
          have hcv := run_convert_bytes_arg (P := Try.prog) wr 53 5 Try.underlying53 Try.underlying5 W.heap.size 0 j j (List.replicate j 120) (by simp) (fun i hi => by
            obtain ⟨cs, hb, hsz, hcs⟩ := r3 (by omega)
            rw [Nat.zero_add]
            refine cell_of_block hb ?_
            rw [hcs i hi]; simp [List.getD, hi]) 9 Try.underlying9
          have R1 := Lib.hid r1
          clear r1 r2 r3 hR
          go_wp2_with fail
          refine (dWriteS (strOfNums (List.replicate j 120)) (by rw [xs_size]; omega) R1.out.st).mono ?_
          clear hcv
          by_cases hfull : k - (dUsed ls : Nat) < (j : Int) + 1
          · rw [(xs_full hfull).1, (xs_full hfull).2]
            rintro e w4 ⟨rfl, v4, hS⟩
            have N4 := Lib.hid (R1.out.step hS)
            clear hS R1
            go_wp2
            go_roundw
            case rel => exact ⟨i + 1, ls, v4, by omega, by go_num, rfl, rfl, N4⟩
            case measure => simp [intOf]; omega
          · rw [(xs_fits hfull).1, (xs_fits hfull).2]
            rintro e w4 ⟨rfl, v4, hS⟩
            have N4 := Lib.hid (R1.out.step hS)
            have hlen : (ls ++ [strOfNums (List.replicate j 120)]).length = ls.length + 1 := by simp
            have hused : dUsed (ls ++ [strOfNums (List.replicate j 120)]) = dUsed ls + (j + 1) := xs_used ls j
            have hU := R1.out.st.usedN
            have hLn := R1.out.st.len
            clear hS R1
            generalize ls ++ [strOfNums (List.replicate j 120)] = ls2 at *
            generalize hdu : dUsed ls = U at *
            generalize hln : ls.length = Ln at *
            have Hlen := Lib.hid hlen
            have Hused := Lib.hid hused
            clear hlen hused hdu hln
            go_wp2_with fail
            refine (dUsedC N4.out.st).mono ?_
            rw [Hused.out]
            rintro e w5 ⟨rfl, hf5⟩
            have N5 := Lib.hid (N4.out.fr0 hf5)
            clear hf5 N4
            have hq1 : ((U + (j + 1) : Nat) : Int) = (U : Int) + ((j : Int) + 1) := by omega
            go_wp2_with fail
            refine (dLen N5.out.st).mono ?_
            rw [Hlen.out]
            rintro e w' ⟨rfl, rfl⟩
            go_wp2_with fail
            refine (dWaits N5.out.st).mono ?_
            rw [Hlen.out, Nat.sub_zero]
            rintro e w6 ⟨rfl, hf6⟩
            have N6 := Lib.hid (N5.out.fr0 hf6)
            clear hf6 N5
            go_wp2
            go_roundw
            case rel => exact ⟨i + 1, ls2, v4, by omega, by go_num, by rw [Hused.out]; go_num, by rw [Hlen.out]; go_num, N6⟩
            case measure => simp [intOf]; omega
    · obtain rfl : i = n := by omega
      have F1 := Lib.hid hD.out.fr
      clear hD
      go_wp2
      go_ret
      exact ⟨rfl, F1.out⟩
end Go.Proofs.Ythlcbhpdbcnmjaa
