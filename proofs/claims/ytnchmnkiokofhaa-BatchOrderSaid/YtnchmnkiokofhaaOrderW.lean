/- The walk of the law BatchOrder. -/
import Derived.Test.YtnchmnkiokofhaaKnown
namespace Go.Proofs.Ytnchmnkiokofhaa
open Go.RowKit Go.Shelf Go.XL
set_option linter.unusedVariables false
set_option linter.unusedSimpArgs false
attribute [local go_sem] Oper.semAt_some

/-- o, o + 1, .., c of them -/
def rng (o c : Nat) : List Int := (List.range' o c).map Nat.cast
theorem rng_len (o c : Nat) : (rng o c).length = c := by simp [rng]
theorem rng_snoc (o c : Nat) : rng o c ++ [((o + c : Nat) : Int)] = rng o (c + 1) := by simp [rng, List.range'_concat]
theorem rng_take (o c t : Nat) (h : t ≤ c) : (rng o c).take t = rng o t := by
  apply List.ext_getElem
  · simp [rng]; omega
  · intro i h1 h2; simp [rng]
theorem rng_drop (o c t : Nat) : (rng o c).drop t = rng (o + t) (c - t) := by
  rw [rng, ← List.map_drop, List.drop_range']; simp [rng]
theorem rng_get (o c j : Nat) (h : j < c) : (rng o c)[j]? = some ((o + j : Nat) : Int) := by simp [rng, h]

set_option maxRecDepth 100000 in
set_option maxHeartbeats 2000000 in
theorem order_any (s r : Int) (v : Value) (n : Nat) (zs : List Int) (w : World) (hs0 : 0 ≤ s) (hs1 : s ≤ 255) (hr0 : 0 ≤ r) (hr1 : r ≤ 255) (hv : Rd w 1 v n (zs.map (Value.int .u8))) (ha : ∀ x ∈ zs, 0 ≤ x ∧ x ≤ 255) :
    Calls Try.prog 3 #[.int .u8 s, .int .u8 r, v] w fun e w' => e = .returned (.bool true) ∧ Below w.heap.size w w' := by
  obtain ⟨ao, cap, rfl, hcap, hmx⟩ := hv.cap
  have hl : zs.length = n := by simpa using hv.1
  have Hv := Lib.hid hv
  have Ha := Lib.hid ha
  have Hl := Lib.hid hl
  clear hv ha hl
  obtain ⟨K, hK⟩ : ∃ K : Nat, 1 + r % 64 = (K : Int) := ⟨(1 + r % 64).toNat, by omega⟩
  have hK1 : (1 : Int) ≤ K := by omega
  have hK2 : (K : Int) ≤ 64 := by omega
  have hm0 : 0 ≤ s % (K : Int) := Int.emod_nonneg _ (by omega)
  have hm1 : s % (K : Int) < K := Int.emod_lt_of_pos _ (by omega)
  obtain ⟨Z, hZ⟩ : ∃ Z : Nat, 1 + s % (K : Int) = (Z : Int) := ⟨(1 + s % (K : Int)).toNat, by omega⟩
  have hZ1 : (1 : Int) ≤ Z := by omega
  have hZ2 : (Z : Int) ≤ K := by omega
  go_enter Try.func3, Try.ntmps3
  go_wp2_with fail
  refine (known_any w).mono ?_
  rintro e w1 ⟨rfl, hb1⟩
  have HB1 := Lib.hid hb1
  clear hb1
  by_cases hn : 40 < n
  · go_wp2
    go_ret
    exact ⟨rfl, HB1.out⟩
  · go_wp2_with fail
    refine (new_ok Z K w1 (by omega) (by omega) (by omega) (by omega)).mono ?_
    rintro e w2 ⟨rfl, hw2⟩
    have hB := BS.new (Fr.of_below HB1.out) Z K
    rw [hw2] at hB
    generalize w1.heap.size = b at *
    have HB := Lib.hid hB
    clear hB hw2 hK hZ hm0 hm1
    go_wp2_with fail
    go_loopw [11, 12, 13] (fun a c i wr => ∃ (C D k : Nat), k ≤ n ∧ C + D ≤ 15 * k ∧ D ≤ K ∧ a = .int .i64 (C + D : Nat) ∧ c = .int .i64 C ∧ i = .int .i64 k ∧ BS w wr b Z K (rng C D)) (fun _ _ i _ => n - (intOf i).toNat)
    case atStart => exact ⟨0, 0, 0, Nat.zero_le _, by omega, Nat.zero_le _, rfl, rfl, rfl, HB.out⟩
    case round =>
      obtain ⟨C, D, k, hk, hCD, hDK, rfl, rfl, rfl, hBS⟩ := hrel
      have HS := Lib.hid hBS
      clear hBS
      by_cases hkn : k < n
      · obtain ⟨g, off, cap', he, _, _, hx⟩ := Hv.out.form (by omega)
        cases he
        have hkz : k < zs.length := by rw [Hl.out]; exact hkn
        obtain ⟨x, hxk⟩ : ∃ x, zs[k]? = some x := ⟨zs[k], by simp [hkz]⟩
        have hcw : w.cell? ⟨g, off + k, none⟩ = some (.int .u8 x) := hx k _ (by simp [hxk])
        obtain ⟨hx0, hx1⟩ := Ha.out x (List.mem_of_getElem? hxk)
        have Hcw := Lib.hid hcw
        clear hx hcw hxk
        have hcr : wr.cell? ⟨g, off + k, none⟩ = some (.int .u8 x) := (Fr.of_below HS.out.below).cell Hcw.out (fun f => f)
        go_wp2_with fail
        obtain ⟨wo, hwo⟩ : ∃ wo : World, wo = wr := ⟨_, rfl⟩
        have HS0 := HS
        go_loopw [11, 14] (fun a jv wr => ∃ (E j : Nat), (j : Int) ≤ x % 16 ∧ C + E ≤ C + D + j ∧ E ≤ K ∧ a = .int .i64 (C + E : Nat) ∧ jv = .int .i64 j ∧ BS w wr b Z K (rng C E)) (fun _ jv _ => 16 - (intOf jv).toNat)
        case atStart => exact ⟨D, 0, by omega, by omega, hDK, rfl, rfl, HS.out⟩
        case round =>
          obtain ⟨E, j, hj, hE, hEK, rfl, rfl, hBS⟩ := hrel
          have HE := Lib.hid hBS
          clear hBS hcr
          have hcr : wr.cell? ⟨g, off + k, none⟩ = some (.int .u8 x) := (Fr.of_below HE.out.below).cell Hcw.out (fun f => f)
          by_cases hjx : (j : Int) < x % 16
          · by_cases hfull : K ≤ E
            · go_wp2_with fail
              refine (bs_add_full HE.out _ (by rw [rng_len]; omega)).mono ?_
              rintro e w3 ⟨rfl, h3⟩
              go_wp2
              go_roundw
              case rel => exact ⟨E, j + 1, by omega, by omega, hEK, rfl, by go_num, h3⟩
              case measure => simp [intOf]; omega
            · go_wp2_with fail
              refine (bs_add HE.out _ (by rw [rng_len]; omega) (by omega)).mono ?_
              rintro e w3 ⟨rfl, h3⟩
              have h3 : BS w w3 b Z K (rng C (E + 1)) := by rw [← rng_snoc]; simpa using h3
              go_wp2
              go_roundw
              case rel => exact ⟨E + 1, j + 1, by omega, by omega, by omega, by go_num, by go_num, h3⟩
              case measure => simp [intOf]; omega
          · go_wp2_with fail
            refine (bs_len HE.out).mono ?_
            rintro e w3 ⟨rfl, rfl⟩
            rw [rng_len]
            have hlim : C + E ≤ 700 := by omega
            have hsub : (C : Int) + E - C = E := by omega
            go_wp2_with fail
            obtain ⟨T, hT⟩ : ∃ T, T = min Z E := ⟨_, rfl⟩
            have ht := bs_taken HE.out 100 (by decide) T (by rw [rng_len]; omega) (by omega) (by rw [rng_len]; omega)
            rw [show ((100 : Nat) : Int) = 100 from rfl, show min T 100 = T by omega, rng_take _ _ _ (by omega), rng_drop] at ht
            refine ht.mono ?_
            rintro e w4 ⟨ao2, cap2, rfl, hs4, h4⟩
            have Hs4 := Lib.hid hs4
            have H4 := Lib.hid h4
            clear hs4 h4 ht
            have hT1 : T ≤ Z := by omega
            have hT2 : T ≤ E := by omega
            have hT3 : T = Z ∨ T = E := by omega
            clear hT
            clear HE HS HS0 Hcw hcr
            go_wp2_with fail
            all_goals
              go_loop [12, 17] (fun c jv => ∃ t : Nat, t ≤ T ∧ c = .int .i64 (C + t : Nat) ∧ jv = .int .i64 t) (fun _ jv => T - (intOf jv).toNat)
              case atStart => exact ⟨0, Nat.zero_le _, rfl, rfl⟩
              case round =>
                obtain ⟨t, ht, rfl, rfl⟩ := hrel
                by_cases htt : t < T
                · obtain ⟨g4, o4, c4, s4, he4, _, _, hg4, _, hx4⟩ := Hs4.out.form (by omega)
                  cases he4
                  have hct : w4.cell? ⟨g4, o4 + t, none⟩ = some (.int .i64 (C + t : Nat)) := cell_of_block hg4 (hx4 t _ (by simp [rng_get _ _ _ htt]))
                  clear hg4 hx4
                  go_wp2
                  go_round
                  case rel => exact ⟨t + 1, by omega, by go_num, by go_num⟩
                  case measure => simp [intOf]; omega
                · obtain rfl : t = T := by omega
                  go_wp2
                  go_roundw
                  case rel => exact ⟨C + t, E - t, k + 1, by omega, by omega, by omega, by go_num, by go_num, by go_num, H4.out⟩
                  case measure => simp [intOf]; omega
      · obtain rfl : k = n := by omega
        go_wp2_with fail
        refine (bs_len HS.out).mono ?_
        rintro e w3 ⟨rfl, rfl⟩
        rw [rng_len]
        have hsub : (C : Int) + D - C = D := by omega
        go_wp2
        go_ret
        exact ⟨by simp, HS.out.below⟩
end Go.Proofs.Ytnchmnkiokofhaa
