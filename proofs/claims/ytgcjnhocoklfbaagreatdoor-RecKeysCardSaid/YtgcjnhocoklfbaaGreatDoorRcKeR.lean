/- The walk of the law RecKeys. -/
import Derived.Test.YtgcjnhocoklfbaaGreatDoorRcA
import Derived.Test.YtgcjnhocoklfbaaGreatDoorRc9
import Derived.Test.YtgcjnhocoklfbaaGreatDoorRc3
namespace Go.XL
open Go.RowKit Go.Shelf
theorem valOk_take {l : List UInt8} {j : Nat} {c : UInt8} (h : l[j]? = some c) : valOk (l.take (j + 1)) = (valOk (l.take j) && (decide (33 ≤ c.toNat) && decide (c.toNat ≤ 126))) := by
  unfold valOk; rw [List.take_add_one, h]; simp
theorem nameOk_take {l : List UInt8} {j : Nat} {c : UInt8} (h : l[j]? = some c) : nameOk (l.take (j + 1)) = (nameOk (l.take j) && nb c.toNat) := by
  unfold nameOk; rw [List.take_add_one, h]; simp
/-- whether a key may be, up to a place -/
def goodTo (key : ByteArray) (j : Nat) : Bool := decide (1 ≤ key.size) && decide (key.size ≤ 8) && nameOk (key.data.toList.take j)
theorem goodTo_succ {key : ByteArray} {j : Nat} {c : UInt8} (h : key.data.toList[j]? = some c) : goodTo key (j + 1) = (goodTo key j && nb c.toNat) := by
  unfold goodTo; rw [nameOk_take h, Bool.and_assoc, Bool.and_assoc, Bool.and_assoc]
theorem goodTo_all (key : ByteArray) : goodTo key key.size = (decide (1 ≤ key.size) && decide (key.size ≤ 8) && nameOk key.data.toList) := by
  unfold goodTo; rw [List.take_of_length_le (by rw [data_len]; exact Nat.le_refl _)]
theorem cell_bad {key val : ByteArray} (h : goodTo key key.size = false) : rccell key.data.toList val.data.toList = 3 := by
  rw [goodTo_all] at h
  unfold rccell
  rw [if_pos]
  rw [data_len]
  by_cases h1 : 1 ≤ key.size
  · by_cases h2 : key.size ≤ 8
    · refine .inr (.inr ?_)
      simpa [h1, h2] using h
    · exact .inr (.inl (by omega))
  · exact .inl (by omega)
theorem cell_good {key val : ByteArray} (h : goodTo key key.size = true) : rccell key.data.toList val.data.toList = if valOk val.data.toList = false then 2 else if 16 < val.size then 4 else 0 := by
  rw [goodTo_all] at h
  simp only [Bool.and_eq_true, decide_eq_true_eq] at h
  unfold rccell
  rw [if_neg (by rw [data_len, h.2]; rintro (h | h | h); omega; omega; cases h), data_len]
end Go.XL
namespace Go.Proofs.YtgcjnhocoklfbaaGreatDoor
open Go.RowKit Go.Shelf Go.XL Go.ChangeShapes Go.WideShapes Go.ChangeAt
set_option linter.unusedVariables false
set_option linter.unusedSimpArgs false
attribute [local go_sem] Oper.semAt_some
set_option maxRecDepth 10000 in
set_option maxHeartbeats 8000000 in
theorem recKeys_any (key val : ByteArray) (w : World) (hG : GlU w) :
    Calls Tryz.prog 6 #[.string key, .string val] w fun e w' => e = .returned (.bool true) ∧ Fr no w w' := by
  have hk := rknown w hG
  have HG := Lib.hid hG
  clear hG
  by_cases hks : 50 < key.size
  · have z1 : (50 : Int) < (key.size : Int) := by omega
    clear hks
    go_enter Tryz.func6, Tryz.ntmps6
    go_wp2_with fail
    refine hk.mono ?_
    rintro e w1 ⟨rfl, hf1⟩
    clear hk
    go_wp2
    go_ret
    exact ⟨rfl, hf1⟩
  by_cases hvs : 50 < val.size
  · have z1 : ¬ (50 : Int) < (key.size : Int) := by omega
    have z2 : (50 : Int) < (val.size : Int) := by omega
    clear hks hvs
    go_enter Tryz.func6, Tryz.ntmps6
    go_wp2_with fail
    refine hk.mono ?_
    rintro e w1 ⟨rfl, hf1⟩
    clear hk
    go_wp2
    go_ret
    exact ⟨rfl, hf1⟩
  have z1 : ¬ (50 : Int) < (key.size : Int) := by omega
  have z2 : ¬ (50 : Int) < (val.size : Int) := by omega
  clear hks hvs
  go_enter Tryz.func6, Tryz.ntmps6
  go_wp2_with fail
  refine hk.mono ?_
  rintro e w1 ⟨rfl, hf1⟩
  clear hk
  have F := Lib.hid hf1
  have HG1 := Lib.hid (HG.out.fr hf1)
  clear hf1 HG
  go_wp2_with fail
  go_loop [5, 6] (fun xv iv => ∃ (x : Int) (i : Nat), i ≤ val.size ∧ xv = .int .i64 x ∧ iv = .int .i64 i ∧ Hid (x = if valOk (val.data.toList.take i) = true then 0 else 2)) (fun _ iv => val.size - (intOf iv).toNat)
  case atStart => exact ⟨0, 0, Nat.zero_le _, rfl, rfl, Lib.hid rfl⟩
  case round =>
    obtain ⟨x, i, hi, rfl, rfl, HX⟩ := hrel
    by_cases hlt : i < val.size
    · obtain ⟨c, hc0, hc⟩ := str_at val i hlt
      have Hc := Lib.hid hc
      clear hc
      have hcb : c.toNat < 256 := c.toNat_lt
      by_cases h1 : c.toNat < 33
      · have y1 : (c.toNat : Int) < 33 := by omega
        have hcn : (decide (33 ≤ c.toNat) && decide (c.toNat ≤ 126)) = false := by simp; omega
        have HX2 : Hid ((2 : Int) = if valOk (val.data.toList.take (i + 1)) = true then 0 else 2) := Lib.hid (by rw [valOk_take Hc.out, hcn, Bool.and_false]; rfl)
        clear HX Hc hcn
        go_wp2
        go_round
        case rel => exact ⟨2, i + 1, by omega, rfl, by go_num, HX2⟩
        case measure => simp [intOf]; omega
      · have y1 : ¬ (c.toNat : Int) < 33 := by omega
        by_cases h2 : 126 < c.toNat
        · have y2 : (126 : Int) < (c.toNat : Int) := by omega
          have hcn : (decide (33 ≤ c.toNat) && decide (c.toNat ≤ 126)) = false := by simp; omega
          have HX2 : Hid ((2 : Int) = if valOk (val.data.toList.take (i + 1)) = true then 0 else 2) := Lib.hid (by rw [valOk_take Hc.out, hcn, Bool.and_false]; rfl)
          clear HX Hc hcn
          go_wp2
          go_round
          case rel => exact ⟨2, i + 1, by omega, rfl, by go_num, HX2⟩
          case measure => simp [intOf]; omega
        · have y2 : ¬ (126 : Int) < (c.toNat : Int) := by omega
          have hcn : (decide (33 ≤ c.toNat) && decide (c.toNat ≤ 126)) = true := by simp; omega
          have HX2 : Hid (x = if valOk (val.data.toList.take (i + 1)) = true then 0 else 2) := Lib.hid (by rw [valOk_take Hc.out, hcn, Bool.and_true]; exact HX.out)
          clear HX Hc hcn
          go_wp2
          go_round
          case rel => exact ⟨x, i + 1, by omega, rfl, by go_num, HX2⟩
          case measure => simp [intOf]; omega
    · obtain rfl : i = val.size := by omega
      have hx := HX.out
      rw [List.take_of_length_le (by rw [data_len]; exact Nat.le_refl _)] at hx
      clear HX
      cases hv : valOk val.data.toList with
      | false =>
        rw [hv] at hx
        obtain rfl : x = 2 := hx
        have HW : Hid ((if valOk val.data.toList = false then 2 else if 16 < val.size then 4 else (0 : Int)) = 2) := Lib.hid (by rw [hv]; rfl)
        clear hv
        by_cases hk1 : 1 ≤ key.size
        · have y1 : (1 : Int) ≤ (key.size : Int) := by omega
          by_cases hk8 : key.size ≤ 8
          · have y2 : (key.size : Int) ≤ 8 := by omega
            have HG0 : Hid (goodTo key 0 = true) := Lib.hid (by unfold goodTo; simp [hk1, hk8, nameOk])
            clear hk1 hk8
            go_wp2_with fail
            go_loop [7, 8] (fun g iv => ∃ k : Nat, k ≤ key.size ∧ ((g = .bool true ∧ Hid (goodTo key k = true)) ∨ (g = .bool false ∧ Hid (goodTo key k = false))) ∧ iv = .int .i64 k) (fun _ iv => key.size - (intOf iv).toNat)
            case atStart => exact ⟨0, Nat.zero_le _, .inl ⟨rfl, Lib.hid HG0.out⟩, rfl⟩
            case round =>
              obtain ⟨k, hk, hg, rfl⟩ := hrel
              by_cases hlt : k < key.size
              · obtain ⟨c, hc0, hc⟩ := str_at key k hlt
                have Hc := Lib.hid hc
                clear hc
                have hcb : c.toNat < 256 := c.toNat_lt
                rcases hg with ⟨rfl, HGk⟩ | ⟨rfl, HGk⟩
                · by_cases h1 : 97 ≤ c.toNat
                  · have z1 : (97 : Int) ≤ (c.toNat : Int) := by omega
                    by_cases h2 : c.toNat ≤ 122
                    · have z2 : (c.toNat : Int) ≤ 122 := by omega
                      have hcn : nb c.toNat = true := by simp [nb]; omega
                      have HG2 : Hid (goodTo key (k + 1) = true) := Lib.hid (by rw [goodTo_succ Hc.out, HGk.out, hcn]; rfl)
                      clear HGk Hc hcn
                      go_wp2
                      go_round
                      case rel => exact ⟨k + 1, by omega, .inl ⟨rfl, HG2⟩, by go_num⟩
                      case measure => simp [intOf]; omega
                    · have z2 : ¬ (c.toNat : Int) ≤ 122 := by omega
                      have z3 : (48 : Int) ≤ (c.toNat : Int) := by omega
                      have z4 : ¬ (c.toNat : Int) ≤ 57 := by omega
                      have hcn : nb c.toNat = false := by simp [nb]; omega
                      have HG2 : Hid (goodTo key (k + 1) = false) := Lib.hid (by rw [goodTo_succ Hc.out, HGk.out, hcn]; rfl)
                      clear HGk Hc hcn
                      go_wp2
                      go_round
                      case rel => exact ⟨k + 1, by omega, .inr ⟨rfl, HG2⟩, by go_num⟩
                      case measure => simp [intOf]; omega
                  · have z1 : ¬ (97 : Int) ≤ (c.toNat : Int) := by omega
                    by_cases h2 : 48 ≤ c.toNat
                    · have z2 : (48 : Int) ≤ (c.toNat : Int) := by omega
                      by_cases h3 : c.toNat ≤ 57
                      · have z3 : (c.toNat : Int) ≤ 57 := by omega
                        have hcn : nb c.toNat = true := by simp [nb]; omega
                        have HG2 : Hid (goodTo key (k + 1) = true) := Lib.hid (by rw [goodTo_succ Hc.out, HGk.out, hcn]; rfl)
                        clear HGk Hc hcn
                        go_wp2
                        go_round
                        case rel => exact ⟨k + 1, by omega, .inl ⟨rfl, HG2⟩, by go_num⟩
                        case measure => simp [intOf]; omega
                      · have z3 : ¬ (c.toNat : Int) ≤ 57 := by omega
                        have hcn : nb c.toNat = false := by simp [nb]; omega
                        have HG2 : Hid (goodTo key (k + 1) = false) := Lib.hid (by rw [goodTo_succ Hc.out, HGk.out, hcn]; rfl)
                        clear HGk Hc hcn
                        go_wp2
                        go_round
                        case rel => exact ⟨k + 1, by omega, .inr ⟨rfl, HG2⟩, by go_num⟩
                        case measure => simp [intOf]; omega
                    · have z2 : ¬ (48 : Int) ≤ (c.toNat : Int) := by omega
                      have hcn : nb c.toNat = false := by simp [nb]; omega
                      have HG2 : Hid (goodTo key (k + 1) = false) := Lib.hid (by rw [goodTo_succ Hc.out, HGk.out, hcn]; rfl)
                      clear HGk Hc hcn
                      go_wp2
                      go_round
                      case rel => exact ⟨k + 1, by omega, .inr ⟨rfl, HG2⟩, by go_num⟩
                      case measure => simp [intOf]; omega
                · have hcn : True := trivial
                  have HG2 : Hid (goodTo key (k + 1) = false) := Lib.hid (by rw [goodTo_succ Hc.out, HGk.out]; rfl)
                  clear HGk Hc hcn
                  go_wp2
                  go_round
                  case rel => exact ⟨k + 1, by omega, .inr ⟨rfl, HG2⟩, by go_num⟩
                  case measure => simp [intOf]; omega
              · obtain rfl : k = key.size := by omega
                have hck := r_check ⟨0, 1, .slice none 0 0, [], key, val⟩ 1 w1 (Sl.nil _ 0 1).rd (by dsimp only; omega) (by dsimp only; omega) HG1.out
                rw [show Rc.check ⟨0, 1, .slice none 0 0, [], key, val⟩ 1 = rccell key.data.toList val.data.toList from rfl] at hck
                unfold Rc.v at hck
                dsimp only at hck
                rcases hg with ⟨rfl, HGk⟩ | ⟨rfl, HGk⟩
                · rw [show rccell key.data.toList val.data.toList = 2 by rw [cell_good HGk.out]; exact HW.out] at hck
                  clear HGk HW HG0
                  go_wp2_with fail
                  refine hck.mono ?_
                  rintro e w2 ⟨rfl, hf2⟩
                  clear hck
                  go_wp2
                  go_ret
                  exact ⟨rfl, F.out.trans' hf2⟩
                · rw [cell_bad HGk.out] at hck
                  clear HGk HW HG0
                  go_wp2_with fail
                  refine hck.mono ?_
                  rintro e w2 ⟨rfl, hf2⟩
                  clear hck
                  go_wp2
                  go_ret
                  exact ⟨rfl, F.out.trans' hf2⟩
          · have y2 : ¬ (key.size : Int) ≤ 8 := by omega
            have HG0 : Hid (goodTo key 0 = false) := Lib.hid (by unfold goodTo; simp [hk8])
            clear hk1 hk8
            go_wp2_with fail
            go_loop [7, 8] (fun g iv => ∃ k : Nat, k ≤ key.size ∧ ((g = .bool true ∧ Hid (goodTo key k = true)) ∨ (g = .bool false ∧ Hid (goodTo key k = false))) ∧ iv = .int .i64 k) (fun _ iv => key.size - (intOf iv).toNat)
            case atStart => exact ⟨0, Nat.zero_le _, .inr ⟨rfl, Lib.hid HG0.out⟩, rfl⟩
            case round =>
              obtain ⟨k, hk, hg, rfl⟩ := hrel
              by_cases hlt : k < key.size
              · obtain ⟨c, hc0, hc⟩ := str_at key k hlt
                have Hc := Lib.hid hc
                clear hc
                have hcb : c.toNat < 256 := c.toNat_lt
                rcases hg with ⟨rfl, HGk⟩ | ⟨rfl, HGk⟩
                · by_cases h1 : 97 ≤ c.toNat
                  · have z1 : (97 : Int) ≤ (c.toNat : Int) := by omega
                    by_cases h2 : c.toNat ≤ 122
                    · have z2 : (c.toNat : Int) ≤ 122 := by omega
                      have hcn : nb c.toNat = true := by simp [nb]; omega
                      have HG2 : Hid (goodTo key (k + 1) = true) := Lib.hid (by rw [goodTo_succ Hc.out, HGk.out, hcn]; rfl)
                      clear HGk Hc hcn
                      go_wp2
                      go_round
                      case rel => exact ⟨k + 1, by omega, .inl ⟨rfl, HG2⟩, by go_num⟩
                      case measure => simp [intOf]; omega
                    · have z2 : ¬ (c.toNat : Int) ≤ 122 := by omega
                      have z3 : (48 : Int) ≤ (c.toNat : Int) := by omega
                      have z4 : ¬ (c.toNat : Int) ≤ 57 := by omega
                      have hcn : nb c.toNat = false := by simp [nb]; omega
                      have HG2 : Hid (goodTo key (k + 1) = false) := Lib.hid (by rw [goodTo_succ Hc.out, HGk.out, hcn]; rfl)
                      clear HGk Hc hcn
                      go_wp2
                      go_round
                      case rel => exact ⟨k + 1, by omega, .inr ⟨rfl, HG2⟩, by go_num⟩
                      case measure => simp [intOf]; omega
                  · have z1 : ¬ (97 : Int) ≤ (c.toNat : Int) := by omega
                    by_cases h2 : 48 ≤ c.toNat
                    · have z2 : (48 : Int) ≤ (c.toNat : Int) := by omega
                      by_cases h3 : c.toNat ≤ 57
                      · have z3 : (c.toNat : Int) ≤ 57 := by omega
                        have hcn : nb c.toNat = true := by simp [nb]; omega
                        have HG2 : Hid (goodTo key (k + 1) = true) := Lib.hid (by rw [goodTo_succ Hc.out, HGk.out, hcn]; rfl)
                        clear HGk Hc hcn
                        go_wp2
                        go_round
                        case rel => exact ⟨k + 1, by omega, .inl ⟨rfl, HG2⟩, by go_num⟩
                        case measure => simp [intOf]; omega
                      · have z3 : ¬ (c.toNat : Int) ≤ 57 := by omega
                        have hcn : nb c.toNat = false := by simp [nb]; omega
                        have HG2 : Hid (goodTo key (k + 1) = false) := Lib.hid (by rw [goodTo_succ Hc.out, HGk.out, hcn]; rfl)
                        clear HGk Hc hcn
                        go_wp2
                        go_round
                        case rel => exact ⟨k + 1, by omega, .inr ⟨rfl, HG2⟩, by go_num⟩
                        case measure => simp [intOf]; omega
                    · have z2 : ¬ (48 : Int) ≤ (c.toNat : Int) := by omega
                      have hcn : nb c.toNat = false := by simp [nb]; omega
                      have HG2 : Hid (goodTo key (k + 1) = false) := Lib.hid (by rw [goodTo_succ Hc.out, HGk.out, hcn]; rfl)
                      clear HGk Hc hcn
                      go_wp2
                      go_round
                      case rel => exact ⟨k + 1, by omega, .inr ⟨rfl, HG2⟩, by go_num⟩
                      case measure => simp [intOf]; omega
                · have hcn : True := trivial
                  have HG2 : Hid (goodTo key (k + 1) = false) := Lib.hid (by rw [goodTo_succ Hc.out, HGk.out]; rfl)
                  clear HGk Hc hcn
                  go_wp2
                  go_round
                  case rel => exact ⟨k + 1, by omega, .inr ⟨rfl, HG2⟩, by go_num⟩
                  case measure => simp [intOf]; omega
              · obtain rfl : k = key.size := by omega
                have hck := r_check ⟨0, 1, .slice none 0 0, [], key, val⟩ 1 w1 (Sl.nil _ 0 1).rd (by dsimp only; omega) (by dsimp only; omega) HG1.out
                rw [show Rc.check ⟨0, 1, .slice none 0 0, [], key, val⟩ 1 = rccell key.data.toList val.data.toList from rfl] at hck
                unfold Rc.v at hck
                dsimp only at hck
                rcases hg with ⟨rfl, HGk⟩ | ⟨rfl, HGk⟩
                · rw [show rccell key.data.toList val.data.toList = 2 by rw [cell_good HGk.out]; exact HW.out] at hck
                  clear HGk HW HG0
                  go_wp2_with fail
                  refine hck.mono ?_
                  rintro e w2 ⟨rfl, hf2⟩
                  clear hck
                  go_wp2
                  go_ret
                  exact ⟨rfl, F.out.trans' hf2⟩
                · rw [cell_bad HGk.out] at hck
                  clear HGk HW HG0
                  go_wp2_with fail
                  refine hck.mono ?_
                  rintro e w2 ⟨rfl, hf2⟩
                  clear hck
                  go_wp2
                  go_ret
                  exact ⟨rfl, F.out.trans' hf2⟩
        · have y1 : ¬ (1 : Int) ≤ (key.size : Int) := by omega
          have HG0 : Hid (goodTo key 0 = false) := Lib.hid (by unfold goodTo; simp [hk1])
          clear hk1
          go_wp2_with fail
          go_loop [7, 8] (fun g iv => ∃ k : Nat, k ≤ key.size ∧ ((g = .bool true ∧ Hid (goodTo key k = true)) ∨ (g = .bool false ∧ Hid (goodTo key k = false))) ∧ iv = .int .i64 k) (fun _ iv => key.size - (intOf iv).toNat)
          case atStart => exact ⟨0, Nat.zero_le _, .inr ⟨rfl, Lib.hid HG0.out⟩, rfl⟩
          case round =>
            obtain ⟨k, hk, hg, rfl⟩ := hrel
            by_cases hlt : k < key.size
            · obtain ⟨c, hc0, hc⟩ := str_at key k hlt
              have Hc := Lib.hid hc
              clear hc
              have hcb : c.toNat < 256 := c.toNat_lt
              rcases hg with ⟨rfl, HGk⟩ | ⟨rfl, HGk⟩
              · by_cases h1 : 97 ≤ c.toNat
                · have z1 : (97 : Int) ≤ (c.toNat : Int) := by omega
                  by_cases h2 : c.toNat ≤ 122
                  · have z2 : (c.toNat : Int) ≤ 122 := by omega
                    have hcn : nb c.toNat = true := by simp [nb]; omega
                    have HG2 : Hid (goodTo key (k + 1) = true) := Lib.hid (by rw [goodTo_succ Hc.out, HGk.out, hcn]; rfl)
                    clear HGk Hc hcn
                    go_wp2
                    go_round
                    case rel => exact ⟨k + 1, by omega, .inl ⟨rfl, HG2⟩, by go_num⟩
                    case measure => simp [intOf]; omega
                  · have z2 : ¬ (c.toNat : Int) ≤ 122 := by omega
                    have z3 : (48 : Int) ≤ (c.toNat : Int) := by omega
                    have z4 : ¬ (c.toNat : Int) ≤ 57 := by omega
                    have hcn : nb c.toNat = false := by simp [nb]; omega
                    have HG2 : Hid (goodTo key (k + 1) = false) := Lib.hid (by rw [goodTo_succ Hc.out, HGk.out, hcn]; rfl)
                    clear HGk Hc hcn
                    go_wp2
                    go_round
                    case rel => exact ⟨k + 1, by omega, .inr ⟨rfl, HG2⟩, by go_num⟩
                    case measure => simp [intOf]; omega
                · have z1 : ¬ (97 : Int) ≤ (c.toNat : Int) := by omega
                  by_cases h2 : 48 ≤ c.toNat
                  · have z2 : (48 : Int) ≤ (c.toNat : Int) := by omega
                    by_cases h3 : c.toNat ≤ 57
                    · have z3 : (c.toNat : Int) ≤ 57 := by omega
                      have hcn : nb c.toNat = true := by simp [nb]; omega
                      have HG2 : Hid (goodTo key (k + 1) = true) := Lib.hid (by rw [goodTo_succ Hc.out, HGk.out, hcn]; rfl)
                      clear HGk Hc hcn
                      go_wp2
                      go_round
                      case rel => exact ⟨k + 1, by omega, .inl ⟨rfl, HG2⟩, by go_num⟩
                      case measure => simp [intOf]; omega
                    · have z3 : ¬ (c.toNat : Int) ≤ 57 := by omega
                      have hcn : nb c.toNat = false := by simp [nb]; omega
                      have HG2 : Hid (goodTo key (k + 1) = false) := Lib.hid (by rw [goodTo_succ Hc.out, HGk.out, hcn]; rfl)
                      clear HGk Hc hcn
                      go_wp2
                      go_round
                      case rel => exact ⟨k + 1, by omega, .inr ⟨rfl, HG2⟩, by go_num⟩
                      case measure => simp [intOf]; omega
                  · have z2 : ¬ (48 : Int) ≤ (c.toNat : Int) := by omega
                    have hcn : nb c.toNat = false := by simp [nb]; omega
                    have HG2 : Hid (goodTo key (k + 1) = false) := Lib.hid (by rw [goodTo_succ Hc.out, HGk.out, hcn]; rfl)
                    clear HGk Hc hcn
                    go_wp2
                    go_round
                    case rel => exact ⟨k + 1, by omega, .inr ⟨rfl, HG2⟩, by go_num⟩
                    case measure => simp [intOf]; omega
              · have hcn : True := trivial
                have HG2 : Hid (goodTo key (k + 1) = false) := Lib.hid (by rw [goodTo_succ Hc.out, HGk.out]; rfl)
                clear HGk Hc hcn
                go_wp2
                go_round
                case rel => exact ⟨k + 1, by omega, .inr ⟨rfl, HG2⟩, by go_num⟩
                case measure => simp [intOf]; omega
            · obtain rfl : k = key.size := by omega
              have hck := r_check ⟨0, 1, .slice none 0 0, [], key, val⟩ 1 w1 (Sl.nil _ 0 1).rd (by dsimp only; omega) (by dsimp only; omega) HG1.out
              rw [show Rc.check ⟨0, 1, .slice none 0 0, [], key, val⟩ 1 = rccell key.data.toList val.data.toList from rfl] at hck
              unfold Rc.v at hck
              dsimp only at hck
              rcases hg with ⟨rfl, HGk⟩ | ⟨rfl, HGk⟩
              · rw [show rccell key.data.toList val.data.toList = 2 by rw [cell_good HGk.out]; exact HW.out] at hck
                clear HGk HW HG0
                go_wp2_with fail
                refine hck.mono ?_
                rintro e w2 ⟨rfl, hf2⟩
                clear hck
                go_wp2
                go_ret
                exact ⟨rfl, F.out.trans' hf2⟩
              · rw [cell_bad HGk.out] at hck
                clear HGk HW HG0
                go_wp2_with fail
                refine hck.mono ?_
                rintro e w2 ⟨rfl, hf2⟩
                clear hck
                go_wp2
                go_ret
                exact ⟨rfl, F.out.trans' hf2⟩
      | true =>
        rw [hv] at hx
        obtain rfl : x = 0 := hx
        by_cases h16 : 16 < val.size
        · have y3 : (16 : Int) < (val.size : Int) := by omega
          have HW : Hid ((if valOk val.data.toList = false then 2 else if 16 < val.size then 4 else (0 : Int)) = 4) := Lib.hid (by rw [hv, if_pos h16]; rfl)
          clear hv h16
          by_cases hk1 : 1 ≤ key.size
          · have y1 : (1 : Int) ≤ (key.size : Int) := by omega
            by_cases hk8 : key.size ≤ 8
            · have y2 : (key.size : Int) ≤ 8 := by omega
              have HG0 : Hid (goodTo key 0 = true) := Lib.hid (by unfold goodTo; simp [hk1, hk8, nameOk])
              clear hk1 hk8
              go_wp2_with fail
              go_loop [7, 8] (fun g iv => ∃ k : Nat, k ≤ key.size ∧ ((g = .bool true ∧ Hid (goodTo key k = true)) ∨ (g = .bool false ∧ Hid (goodTo key k = false))) ∧ iv = .int .i64 k) (fun _ iv => key.size - (intOf iv).toNat)
              case atStart => exact ⟨0, Nat.zero_le _, .inl ⟨rfl, Lib.hid HG0.out⟩, rfl⟩
              case round =>
                obtain ⟨k, hk, hg, rfl⟩ := hrel
                by_cases hlt : k < key.size
                · obtain ⟨c, hc0, hc⟩ := str_at key k hlt
                  have Hc := Lib.hid hc
                  clear hc
                  have hcb : c.toNat < 256 := c.toNat_lt
                  rcases hg with ⟨rfl, HGk⟩ | ⟨rfl, HGk⟩
                  · by_cases h1 : 97 ≤ c.toNat
                    · have z1 : (97 : Int) ≤ (c.toNat : Int) := by omega
                      by_cases h2 : c.toNat ≤ 122
                      · have z2 : (c.toNat : Int) ≤ 122 := by omega
                        have hcn : nb c.toNat = true := by simp [nb]; omega
                        have HG2 : Hid (goodTo key (k + 1) = true) := Lib.hid (by rw [goodTo_succ Hc.out, HGk.out, hcn]; rfl)
                        clear HGk Hc hcn
                        go_wp2
                        go_round
                        case rel => exact ⟨k + 1, by omega, .inl ⟨rfl, HG2⟩, by go_num⟩
                        case measure => simp [intOf]; omega
                      · have z2 : ¬ (c.toNat : Int) ≤ 122 := by omega
                        have z3 : (48 : Int) ≤ (c.toNat : Int) := by omega
                        have z4 : ¬ (c.toNat : Int) ≤ 57 := by omega
                        have hcn : nb c.toNat = false := by simp [nb]; omega
                        have HG2 : Hid (goodTo key (k + 1) = false) := Lib.hid (by rw [goodTo_succ Hc.out, HGk.out, hcn]; rfl)
                        clear HGk Hc hcn
                        go_wp2
                        go_round
                        case rel => exact ⟨k + 1, by omega, .inr ⟨rfl, HG2⟩, by go_num⟩
                        case measure => simp [intOf]; omega
                    · have z1 : ¬ (97 : Int) ≤ (c.toNat : Int) := by omega
                      by_cases h2 : 48 ≤ c.toNat
                      · have z2 : (48 : Int) ≤ (c.toNat : Int) := by omega
                        by_cases h3 : c.toNat ≤ 57
                        · have z3 : (c.toNat : Int) ≤ 57 := by omega
                          have hcn : nb c.toNat = true := by simp [nb]; omega
                          have HG2 : Hid (goodTo key (k + 1) = true) := Lib.hid (by rw [goodTo_succ Hc.out, HGk.out, hcn]; rfl)
                          clear HGk Hc hcn
                          go_wp2
                          go_round
                          case rel => exact ⟨k + 1, by omega, .inl ⟨rfl, HG2⟩, by go_num⟩
                          case measure => simp [intOf]; omega
                        · have z3 : ¬ (c.toNat : Int) ≤ 57 := by omega
                          have hcn : nb c.toNat = false := by simp [nb]; omega
                          have HG2 : Hid (goodTo key (k + 1) = false) := Lib.hid (by rw [goodTo_succ Hc.out, HGk.out, hcn]; rfl)
                          clear HGk Hc hcn
                          go_wp2
                          go_round
                          case rel => exact ⟨k + 1, by omega, .inr ⟨rfl, HG2⟩, by go_num⟩
                          case measure => simp [intOf]; omega
                      · have z2 : ¬ (48 : Int) ≤ (c.toNat : Int) := by omega
                        have hcn : nb c.toNat = false := by simp [nb]; omega
                        have HG2 : Hid (goodTo key (k + 1) = false) := Lib.hid (by rw [goodTo_succ Hc.out, HGk.out, hcn]; rfl)
                        clear HGk Hc hcn
                        go_wp2
                        go_round
                        case rel => exact ⟨k + 1, by omega, .inr ⟨rfl, HG2⟩, by go_num⟩
                        case measure => simp [intOf]; omega
                  · have hcn : True := trivial
                    have HG2 : Hid (goodTo key (k + 1) = false) := Lib.hid (by rw [goodTo_succ Hc.out, HGk.out]; rfl)
                    clear HGk Hc hcn
                    go_wp2
                    go_round
                    case rel => exact ⟨k + 1, by omega, .inr ⟨rfl, HG2⟩, by go_num⟩
                    case measure => simp [intOf]; omega
                · obtain rfl : k = key.size := by omega
                  have hck := r_check ⟨0, 1, .slice none 0 0, [], key, val⟩ 1 w1 (Sl.nil _ 0 1).rd (by dsimp only; omega) (by dsimp only; omega) HG1.out
                  rw [show Rc.check ⟨0, 1, .slice none 0 0, [], key, val⟩ 1 = rccell key.data.toList val.data.toList from rfl] at hck
                  unfold Rc.v at hck
                  dsimp only at hck
                  rcases hg with ⟨rfl, HGk⟩ | ⟨rfl, HGk⟩
                  · rw [show rccell key.data.toList val.data.toList = 4 by rw [cell_good HGk.out]; exact HW.out] at hck
                    clear HGk HW HG0
                    go_wp2_with fail
                    refine hck.mono ?_
                    rintro e w2 ⟨rfl, hf2⟩
                    clear hck
                    go_wp2
                    go_ret
                    exact ⟨rfl, F.out.trans' hf2⟩
                  · rw [cell_bad HGk.out] at hck
                    clear HGk HW HG0
                    go_wp2_with fail
                    refine hck.mono ?_
                    rintro e w2 ⟨rfl, hf2⟩
                    clear hck
                    go_wp2
                    go_ret
                    exact ⟨rfl, F.out.trans' hf2⟩
            · have y2 : ¬ (key.size : Int) ≤ 8 := by omega
              have HG0 : Hid (goodTo key 0 = false) := Lib.hid (by unfold goodTo; simp [hk8])
              clear hk1 hk8
              go_wp2_with fail
              go_loop [7, 8] (fun g iv => ∃ k : Nat, k ≤ key.size ∧ ((g = .bool true ∧ Hid (goodTo key k = true)) ∨ (g = .bool false ∧ Hid (goodTo key k = false))) ∧ iv = .int .i64 k) (fun _ iv => key.size - (intOf iv).toNat)
              case atStart => exact ⟨0, Nat.zero_le _, .inr ⟨rfl, Lib.hid HG0.out⟩, rfl⟩
              case round =>
                obtain ⟨k, hk, hg, rfl⟩ := hrel
                by_cases hlt : k < key.size
                · obtain ⟨c, hc0, hc⟩ := str_at key k hlt
                  have Hc := Lib.hid hc
                  clear hc
                  have hcb : c.toNat < 256 := c.toNat_lt
                  rcases hg with ⟨rfl, HGk⟩ | ⟨rfl, HGk⟩
                  · by_cases h1 : 97 ≤ c.toNat
                    · have z1 : (97 : Int) ≤ (c.toNat : Int) := by omega
                      by_cases h2 : c.toNat ≤ 122
                      · have z2 : (c.toNat : Int) ≤ 122 := by omega
                        have hcn : nb c.toNat = true := by simp [nb]; omega
                        have HG2 : Hid (goodTo key (k + 1) = true) := Lib.hid (by rw [goodTo_succ Hc.out, HGk.out, hcn]; rfl)
                        clear HGk Hc hcn
                        go_wp2
                        go_round
                        case rel => exact ⟨k + 1, by omega, .inl ⟨rfl, HG2⟩, by go_num⟩
                        case measure => simp [intOf]; omega
                      · have z2 : ¬ (c.toNat : Int) ≤ 122 := by omega
                        have z3 : (48 : Int) ≤ (c.toNat : Int) := by omega
                        have z4 : ¬ (c.toNat : Int) ≤ 57 := by omega
                        have hcn : nb c.toNat = false := by simp [nb]; omega
                        have HG2 : Hid (goodTo key (k + 1) = false) := Lib.hid (by rw [goodTo_succ Hc.out, HGk.out, hcn]; rfl)
                        clear HGk Hc hcn
                        go_wp2
                        go_round
                        case rel => exact ⟨k + 1, by omega, .inr ⟨rfl, HG2⟩, by go_num⟩
                        case measure => simp [intOf]; omega
                    · have z1 : ¬ (97 : Int) ≤ (c.toNat : Int) := by omega
                      by_cases h2 : 48 ≤ c.toNat
                      · have z2 : (48 : Int) ≤ (c.toNat : Int) := by omega
                        by_cases h3 : c.toNat ≤ 57
                        · have z3 : (c.toNat : Int) ≤ 57 := by omega
                          have hcn : nb c.toNat = true := by simp [nb]; omega
                          have HG2 : Hid (goodTo key (k + 1) = true) := Lib.hid (by rw [goodTo_succ Hc.out, HGk.out, hcn]; rfl)
                          clear HGk Hc hcn
                          go_wp2
                          go_round
                          case rel => exact ⟨k + 1, by omega, .inl ⟨rfl, HG2⟩, by go_num⟩
                          case measure => simp [intOf]; omega
                        · have z3 : ¬ (c.toNat : Int) ≤ 57 := by omega
                          have hcn : nb c.toNat = false := by simp [nb]; omega
                          have HG2 : Hid (goodTo key (k + 1) = false) := Lib.hid (by rw [goodTo_succ Hc.out, HGk.out, hcn]; rfl)
                          clear HGk Hc hcn
                          go_wp2
                          go_round
                          case rel => exact ⟨k + 1, by omega, .inr ⟨rfl, HG2⟩, by go_num⟩
                          case measure => simp [intOf]; omega
                      · have z2 : ¬ (48 : Int) ≤ (c.toNat : Int) := by omega
                        have hcn : nb c.toNat = false := by simp [nb]; omega
                        have HG2 : Hid (goodTo key (k + 1) = false) := Lib.hid (by rw [goodTo_succ Hc.out, HGk.out, hcn]; rfl)
                        clear HGk Hc hcn
                        go_wp2
                        go_round
                        case rel => exact ⟨k + 1, by omega, .inr ⟨rfl, HG2⟩, by go_num⟩
                        case measure => simp [intOf]; omega
                  · have hcn : True := trivial
                    have HG2 : Hid (goodTo key (k + 1) = false) := Lib.hid (by rw [goodTo_succ Hc.out, HGk.out]; rfl)
                    clear HGk Hc hcn
                    go_wp2
                    go_round
                    case rel => exact ⟨k + 1, by omega, .inr ⟨rfl, HG2⟩, by go_num⟩
                    case measure => simp [intOf]; omega
                · obtain rfl : k = key.size := by omega
                  have hck := r_check ⟨0, 1, .slice none 0 0, [], key, val⟩ 1 w1 (Sl.nil _ 0 1).rd (by dsimp only; omega) (by dsimp only; omega) HG1.out
                  rw [show Rc.check ⟨0, 1, .slice none 0 0, [], key, val⟩ 1 = rccell key.data.toList val.data.toList from rfl] at hck
                  unfold Rc.v at hck
                  dsimp only at hck
                  rcases hg with ⟨rfl, HGk⟩ | ⟨rfl, HGk⟩
                  · rw [show rccell key.data.toList val.data.toList = 4 by rw [cell_good HGk.out]; exact HW.out] at hck
                    clear HGk HW HG0
                    go_wp2_with fail
                    refine hck.mono ?_
                    rintro e w2 ⟨rfl, hf2⟩
                    clear hck
                    go_wp2
                    go_ret
                    exact ⟨rfl, F.out.trans' hf2⟩
                  · rw [cell_bad HGk.out] at hck
                    clear HGk HW HG0
                    go_wp2_with fail
                    refine hck.mono ?_
                    rintro e w2 ⟨rfl, hf2⟩
                    clear hck
                    go_wp2
                    go_ret
                    exact ⟨rfl, F.out.trans' hf2⟩
          · have y1 : ¬ (1 : Int) ≤ (key.size : Int) := by omega
            have HG0 : Hid (goodTo key 0 = false) := Lib.hid (by unfold goodTo; simp [hk1])
            clear hk1
            go_wp2_with fail
            go_loop [7, 8] (fun g iv => ∃ k : Nat, k ≤ key.size ∧ ((g = .bool true ∧ Hid (goodTo key k = true)) ∨ (g = .bool false ∧ Hid (goodTo key k = false))) ∧ iv = .int .i64 k) (fun _ iv => key.size - (intOf iv).toNat)
            case atStart => exact ⟨0, Nat.zero_le _, .inr ⟨rfl, Lib.hid HG0.out⟩, rfl⟩
            case round =>
              obtain ⟨k, hk, hg, rfl⟩ := hrel
              by_cases hlt : k < key.size
              · obtain ⟨c, hc0, hc⟩ := str_at key k hlt
                have Hc := Lib.hid hc
                clear hc
                have hcb : c.toNat < 256 := c.toNat_lt
                rcases hg with ⟨rfl, HGk⟩ | ⟨rfl, HGk⟩
                · by_cases h1 : 97 ≤ c.toNat
                  · have z1 : (97 : Int) ≤ (c.toNat : Int) := by omega
                    by_cases h2 : c.toNat ≤ 122
                    · have z2 : (c.toNat : Int) ≤ 122 := by omega
                      have hcn : nb c.toNat = true := by simp [nb]; omega
                      have HG2 : Hid (goodTo key (k + 1) = true) := Lib.hid (by rw [goodTo_succ Hc.out, HGk.out, hcn]; rfl)
                      clear HGk Hc hcn
                      go_wp2
                      go_round
                      case rel => exact ⟨k + 1, by omega, .inl ⟨rfl, HG2⟩, by go_num⟩
                      case measure => simp [intOf]; omega
                    · have z2 : ¬ (c.toNat : Int) ≤ 122 := by omega
                      have z3 : (48 : Int) ≤ (c.toNat : Int) := by omega
                      have z4 : ¬ (c.toNat : Int) ≤ 57 := by omega
                      have hcn : nb c.toNat = false := by simp [nb]; omega
                      have HG2 : Hid (goodTo key (k + 1) = false) := Lib.hid (by rw [goodTo_succ Hc.out, HGk.out, hcn]; rfl)
                      clear HGk Hc hcn
                      go_wp2
                      go_round
                      case rel => exact ⟨k + 1, by omega, .inr ⟨rfl, HG2⟩, by go_num⟩
                      case measure => simp [intOf]; omega
                  · have z1 : ¬ (97 : Int) ≤ (c.toNat : Int) := by omega
                    by_cases h2 : 48 ≤ c.toNat
                    · have z2 : (48 : Int) ≤ (c.toNat : Int) := by omega
                      by_cases h3 : c.toNat ≤ 57
                      · have z3 : (c.toNat : Int) ≤ 57 := by omega
                        have hcn : nb c.toNat = true := by simp [nb]; omega
                        have HG2 : Hid (goodTo key (k + 1) = true) := Lib.hid (by rw [goodTo_succ Hc.out, HGk.out, hcn]; rfl)
                        clear HGk Hc hcn
                        go_wp2
                        go_round
                        case rel => exact ⟨k + 1, by omega, .inl ⟨rfl, HG2⟩, by go_num⟩
                        case measure => simp [intOf]; omega
                      · have z3 : ¬ (c.toNat : Int) ≤ 57 := by omega
                        have hcn : nb c.toNat = false := by simp [nb]; omega
                        have HG2 : Hid (goodTo key (k + 1) = false) := Lib.hid (by rw [goodTo_succ Hc.out, HGk.out, hcn]; rfl)
                        clear HGk Hc hcn
                        go_wp2
                        go_round
                        case rel => exact ⟨k + 1, by omega, .inr ⟨rfl, HG2⟩, by go_num⟩
                        case measure => simp [intOf]; omega
                    · have z2 : ¬ (48 : Int) ≤ (c.toNat : Int) := by omega
                      have hcn : nb c.toNat = false := by simp [nb]; omega
                      have HG2 : Hid (goodTo key (k + 1) = false) := Lib.hid (by rw [goodTo_succ Hc.out, HGk.out, hcn]; rfl)
                      clear HGk Hc hcn
                      go_wp2
                      go_round
                      case rel => exact ⟨k + 1, by omega, .inr ⟨rfl, HG2⟩, by go_num⟩
                      case measure => simp [intOf]; omega
                · have hcn : True := trivial
                  have HG2 : Hid (goodTo key (k + 1) = false) := Lib.hid (by rw [goodTo_succ Hc.out, HGk.out]; rfl)
                  clear HGk Hc hcn
                  go_wp2
                  go_round
                  case rel => exact ⟨k + 1, by omega, .inr ⟨rfl, HG2⟩, by go_num⟩
                  case measure => simp [intOf]; omega
              · obtain rfl : k = key.size := by omega
                have hck := r_check ⟨0, 1, .slice none 0 0, [], key, val⟩ 1 w1 (Sl.nil _ 0 1).rd (by dsimp only; omega) (by dsimp only; omega) HG1.out
                rw [show Rc.check ⟨0, 1, .slice none 0 0, [], key, val⟩ 1 = rccell key.data.toList val.data.toList from rfl] at hck
                unfold Rc.v at hck
                dsimp only at hck
                rcases hg with ⟨rfl, HGk⟩ | ⟨rfl, HGk⟩
                · rw [show rccell key.data.toList val.data.toList = 4 by rw [cell_good HGk.out]; exact HW.out] at hck
                  clear HGk HW HG0
                  go_wp2_with fail
                  refine hck.mono ?_
                  rintro e w2 ⟨rfl, hf2⟩
                  clear hck
                  go_wp2
                  go_ret
                  exact ⟨rfl, F.out.trans' hf2⟩
                · rw [cell_bad HGk.out] at hck
                  clear HGk HW HG0
                  go_wp2_with fail
                  refine hck.mono ?_
                  rintro e w2 ⟨rfl, hf2⟩
                  clear hck
                  go_wp2
                  go_ret
                  exact ⟨rfl, F.out.trans' hf2⟩
        · have y3 : ¬ (16 : Int) < (val.size : Int) := by omega
          have HW : Hid ((if valOk val.data.toList = false then 2 else if 16 < val.size then 4 else (0 : Int)) = 0) := Lib.hid (by rw [hv, if_neg h16]; rfl)
          clear hv h16
          by_cases hk1 : 1 ≤ key.size
          · have y1 : (1 : Int) ≤ (key.size : Int) := by omega
            by_cases hk8 : key.size ≤ 8
            · have y2 : (key.size : Int) ≤ 8 := by omega
              have HG0 : Hid (goodTo key 0 = true) := Lib.hid (by unfold goodTo; simp [hk1, hk8, nameOk])
              clear hk1 hk8
              go_wp2_with fail
              go_loop [7, 8] (fun g iv => ∃ k : Nat, k ≤ key.size ∧ ((g = .bool true ∧ Hid (goodTo key k = true)) ∨ (g = .bool false ∧ Hid (goodTo key k = false))) ∧ iv = .int .i64 k) (fun _ iv => key.size - (intOf iv).toNat)
              case atStart => exact ⟨0, Nat.zero_le _, .inl ⟨rfl, Lib.hid HG0.out⟩, rfl⟩
              case round =>
                obtain ⟨k, hk, hg, rfl⟩ := hrel
                by_cases hlt : k < key.size
                · obtain ⟨c, hc0, hc⟩ := str_at key k hlt
                  have Hc := Lib.hid hc
                  clear hc
                  have hcb : c.toNat < 256 := c.toNat_lt
                  rcases hg with ⟨rfl, HGk⟩ | ⟨rfl, HGk⟩
                  · by_cases h1 : 97 ≤ c.toNat
                    · have z1 : (97 : Int) ≤ (c.toNat : Int) := by omega
                      by_cases h2 : c.toNat ≤ 122
                      · have z2 : (c.toNat : Int) ≤ 122 := by omega
                        have hcn : nb c.toNat = true := by simp [nb]; omega
                        have HG2 : Hid (goodTo key (k + 1) = true) := Lib.hid (by rw [goodTo_succ Hc.out, HGk.out, hcn]; rfl)
                        clear HGk Hc hcn
                        go_wp2
                        go_round
                        case rel => exact ⟨k + 1, by omega, .inl ⟨rfl, HG2⟩, by go_num⟩
                        case measure => simp [intOf]; omega
                      · have z2 : ¬ (c.toNat : Int) ≤ 122 := by omega
                        have z3 : (48 : Int) ≤ (c.toNat : Int) := by omega
                        have z4 : ¬ (c.toNat : Int) ≤ 57 := by omega
                        have hcn : nb c.toNat = false := by simp [nb]; omega
                        have HG2 : Hid (goodTo key (k + 1) = false) := Lib.hid (by rw [goodTo_succ Hc.out, HGk.out, hcn]; rfl)
                        clear HGk Hc hcn
                        go_wp2
                        go_round
                        case rel => exact ⟨k + 1, by omega, .inr ⟨rfl, HG2⟩, by go_num⟩
                        case measure => simp [intOf]; omega
                    · have z1 : ¬ (97 : Int) ≤ (c.toNat : Int) := by omega
                      by_cases h2 : 48 ≤ c.toNat
                      · have z2 : (48 : Int) ≤ (c.toNat : Int) := by omega
                        by_cases h3 : c.toNat ≤ 57
                        · have z3 : (c.toNat : Int) ≤ 57 := by omega
                          have hcn : nb c.toNat = true := by simp [nb]; omega
                          have HG2 : Hid (goodTo key (k + 1) = true) := Lib.hid (by rw [goodTo_succ Hc.out, HGk.out, hcn]; rfl)
                          clear HGk Hc hcn
                          go_wp2
                          go_round
                          case rel => exact ⟨k + 1, by omega, .inl ⟨rfl, HG2⟩, by go_num⟩
                          case measure => simp [intOf]; omega
                        · have z3 : ¬ (c.toNat : Int) ≤ 57 := by omega
                          have hcn : nb c.toNat = false := by simp [nb]; omega
                          have HG2 : Hid (goodTo key (k + 1) = false) := Lib.hid (by rw [goodTo_succ Hc.out, HGk.out, hcn]; rfl)
                          clear HGk Hc hcn
                          go_wp2
                          go_round
                          case rel => exact ⟨k + 1, by omega, .inr ⟨rfl, HG2⟩, by go_num⟩
                          case measure => simp [intOf]; omega
                      · have z2 : ¬ (48 : Int) ≤ (c.toNat : Int) := by omega
                        have hcn : nb c.toNat = false := by simp [nb]; omega
                        have HG2 : Hid (goodTo key (k + 1) = false) := Lib.hid (by rw [goodTo_succ Hc.out, HGk.out, hcn]; rfl)
                        clear HGk Hc hcn
                        go_wp2
                        go_round
                        case rel => exact ⟨k + 1, by omega, .inr ⟨rfl, HG2⟩, by go_num⟩
                        case measure => simp [intOf]; omega
                  · have hcn : True := trivial
                    have HG2 : Hid (goodTo key (k + 1) = false) := Lib.hid (by rw [goodTo_succ Hc.out, HGk.out]; rfl)
                    clear HGk Hc hcn
                    go_wp2
                    go_round
                    case rel => exact ⟨k + 1, by omega, .inr ⟨rfl, HG2⟩, by go_num⟩
                    case measure => simp [intOf]; omega
                · obtain rfl : k = key.size := by omega
                  have hck := r_check ⟨0, 1, .slice none 0 0, [], key, val⟩ 1 w1 (Sl.nil _ 0 1).rd (by dsimp only; omega) (by dsimp only; omega) HG1.out
                  rw [show Rc.check ⟨0, 1, .slice none 0 0, [], key, val⟩ 1 = rccell key.data.toList val.data.toList from rfl] at hck
                  unfold Rc.v at hck
                  dsimp only at hck
                  rcases hg with ⟨rfl, HGk⟩ | ⟨rfl, HGk⟩
                  · rw [show rccell key.data.toList val.data.toList = 0 by rw [cell_good HGk.out]; exact HW.out] at hck
                    clear HGk HW HG0
                    go_wp2_with fail
                    refine hck.mono ?_
                    rintro e w2 ⟨rfl, hf2⟩
                    clear hck
                    go_wp2
                    go_ret
                    exact ⟨rfl, F.out.trans' hf2⟩
                  · rw [cell_bad HGk.out] at hck
                    clear HGk HW HG0
                    go_wp2_with fail
                    refine hck.mono ?_
                    rintro e w2 ⟨rfl, hf2⟩
                    clear hck
                    go_wp2
                    go_ret
                    exact ⟨rfl, F.out.trans' hf2⟩
            · have y2 : ¬ (key.size : Int) ≤ 8 := by omega
              have HG0 : Hid (goodTo key 0 = false) := Lib.hid (by unfold goodTo; simp [hk8])
              clear hk1 hk8
              go_wp2_with fail
              go_loop [7, 8] (fun g iv => ∃ k : Nat, k ≤ key.size ∧ ((g = .bool true ∧ Hid (goodTo key k = true)) ∨ (g = .bool false ∧ Hid (goodTo key k = false))) ∧ iv = .int .i64 k) (fun _ iv => key.size - (intOf iv).toNat)
              case atStart => exact ⟨0, Nat.zero_le _, .inr ⟨rfl, Lib.hid HG0.out⟩, rfl⟩
              case round =>
                obtain ⟨k, hk, hg, rfl⟩ := hrel
                by_cases hlt : k < key.size
                · obtain ⟨c, hc0, hc⟩ := str_at key k hlt
                  have Hc := Lib.hid hc
                  clear hc
                  have hcb : c.toNat < 256 := c.toNat_lt
                  rcases hg with ⟨rfl, HGk⟩ | ⟨rfl, HGk⟩
                  · by_cases h1 : 97 ≤ c.toNat
                    · have z1 : (97 : Int) ≤ (c.toNat : Int) := by omega
                      by_cases h2 : c.toNat ≤ 122
                      · have z2 : (c.toNat : Int) ≤ 122 := by omega
                        have hcn : nb c.toNat = true := by simp [nb]; omega
                        have HG2 : Hid (goodTo key (k + 1) = true) := Lib.hid (by rw [goodTo_succ Hc.out, HGk.out, hcn]; rfl)
                        clear HGk Hc hcn
                        go_wp2
                        go_round
                        case rel => exact ⟨k + 1, by omega, .inl ⟨rfl, HG2⟩, by go_num⟩
                        case measure => simp [intOf]; omega
                      · have z2 : ¬ (c.toNat : Int) ≤ 122 := by omega
                        have z3 : (48 : Int) ≤ (c.toNat : Int) := by omega
                        have z4 : ¬ (c.toNat : Int) ≤ 57 := by omega
                        have hcn : nb c.toNat = false := by simp [nb]; omega
                        have HG2 : Hid (goodTo key (k + 1) = false) := Lib.hid (by rw [goodTo_succ Hc.out, HGk.out, hcn]; rfl)
                        clear HGk Hc hcn
                        go_wp2
                        go_round
                        case rel => exact ⟨k + 1, by omega, .inr ⟨rfl, HG2⟩, by go_num⟩
                        case measure => simp [intOf]; omega
                    · have z1 : ¬ (97 : Int) ≤ (c.toNat : Int) := by omega
                      by_cases h2 : 48 ≤ c.toNat
                      · have z2 : (48 : Int) ≤ (c.toNat : Int) := by omega
                        by_cases h3 : c.toNat ≤ 57
                        · have z3 : (c.toNat : Int) ≤ 57 := by omega
                          have hcn : nb c.toNat = true := by simp [nb]; omega
                          have HG2 : Hid (goodTo key (k + 1) = true) := Lib.hid (by rw [goodTo_succ Hc.out, HGk.out, hcn]; rfl)
                          clear HGk Hc hcn
                          go_wp2
                          go_round
                          case rel => exact ⟨k + 1, by omega, .inl ⟨rfl, HG2⟩, by go_num⟩
                          case measure => simp [intOf]; omega
                        · have z3 : ¬ (c.toNat : Int) ≤ 57 := by omega
                          have hcn : nb c.toNat = false := by simp [nb]; omega
                          have HG2 : Hid (goodTo key (k + 1) = false) := Lib.hid (by rw [goodTo_succ Hc.out, HGk.out, hcn]; rfl)
                          clear HGk Hc hcn
                          go_wp2
                          go_round
                          case rel => exact ⟨k + 1, by omega, .inr ⟨rfl, HG2⟩, by go_num⟩
                          case measure => simp [intOf]; omega
                      · have z2 : ¬ (48 : Int) ≤ (c.toNat : Int) := by omega
                        have hcn : nb c.toNat = false := by simp [nb]; omega
                        have HG2 : Hid (goodTo key (k + 1) = false) := Lib.hid (by rw [goodTo_succ Hc.out, HGk.out, hcn]; rfl)
                        clear HGk Hc hcn
                        go_wp2
                        go_round
                        case rel => exact ⟨k + 1, by omega, .inr ⟨rfl, HG2⟩, by go_num⟩
                        case measure => simp [intOf]; omega
                  · have hcn : True := trivial
                    have HG2 : Hid (goodTo key (k + 1) = false) := Lib.hid (by rw [goodTo_succ Hc.out, HGk.out]; rfl)
                    clear HGk Hc hcn
                    go_wp2
                    go_round
                    case rel => exact ⟨k + 1, by omega, .inr ⟨rfl, HG2⟩, by go_num⟩
                    case measure => simp [intOf]; omega
                · obtain rfl : k = key.size := by omega
                  have hck := r_check ⟨0, 1, .slice none 0 0, [], key, val⟩ 1 w1 (Sl.nil _ 0 1).rd (by dsimp only; omega) (by dsimp only; omega) HG1.out
                  rw [show Rc.check ⟨0, 1, .slice none 0 0, [], key, val⟩ 1 = rccell key.data.toList val.data.toList from rfl] at hck
                  unfold Rc.v at hck
                  dsimp only at hck
                  rcases hg with ⟨rfl, HGk⟩ | ⟨rfl, HGk⟩
                  · rw [show rccell key.data.toList val.data.toList = 0 by rw [cell_good HGk.out]; exact HW.out] at hck
                    clear HGk HW HG0
                    go_wp2_with fail
                    refine hck.mono ?_
                    rintro e w2 ⟨rfl, hf2⟩
                    clear hck
                    go_wp2
                    go_ret
                    exact ⟨rfl, F.out.trans' hf2⟩
                  · rw [cell_bad HGk.out] at hck
                    clear HGk HW HG0
                    go_wp2_with fail
                    refine hck.mono ?_
                    rintro e w2 ⟨rfl, hf2⟩
                    clear hck
                    go_wp2
                    go_ret
                    exact ⟨rfl, F.out.trans' hf2⟩
          · have y1 : ¬ (1 : Int) ≤ (key.size : Int) := by omega
            have HG0 : Hid (goodTo key 0 = false) := Lib.hid (by unfold goodTo; simp [hk1])
            clear hk1
            go_wp2_with fail
            go_loop [7, 8] (fun g iv => ∃ k : Nat, k ≤ key.size ∧ ((g = .bool true ∧ Hid (goodTo key k = true)) ∨ (g = .bool false ∧ Hid (goodTo key k = false))) ∧ iv = .int .i64 k) (fun _ iv => key.size - (intOf iv).toNat)
            case atStart => exact ⟨0, Nat.zero_le _, .inr ⟨rfl, Lib.hid HG0.out⟩, rfl⟩
            case round =>
              obtain ⟨k, hk, hg, rfl⟩ := hrel
              by_cases hlt : k < key.size
              · obtain ⟨c, hc0, hc⟩ := str_at key k hlt
                have Hc := Lib.hid hc
                clear hc
                have hcb : c.toNat < 256 := c.toNat_lt
                rcases hg with ⟨rfl, HGk⟩ | ⟨rfl, HGk⟩
                · by_cases h1 : 97 ≤ c.toNat
                  · have z1 : (97 : Int) ≤ (c.toNat : Int) := by omega
                    by_cases h2 : c.toNat ≤ 122
                    · have z2 : (c.toNat : Int) ≤ 122 := by omega
                      have hcn : nb c.toNat = true := by simp [nb]; omega
                      have HG2 : Hid (goodTo key (k + 1) = true) := Lib.hid (by rw [goodTo_succ Hc.out, HGk.out, hcn]; rfl)
                      clear HGk Hc hcn
                      go_wp2
                      go_round
                      case rel => exact ⟨k + 1, by omega, .inl ⟨rfl, HG2⟩, by go_num⟩
                      case measure => simp [intOf]; omega
                    · have z2 : ¬ (c.toNat : Int) ≤ 122 := by omega
                      have z3 : (48 : Int) ≤ (c.toNat : Int) := by omega
                      have z4 : ¬ (c.toNat : Int) ≤ 57 := by omega
                      have hcn : nb c.toNat = false := by simp [nb]; omega
                      have HG2 : Hid (goodTo key (k + 1) = false) := Lib.hid (by rw [goodTo_succ Hc.out, HGk.out, hcn]; rfl)
                      clear HGk Hc hcn
                      go_wp2
                      go_round
                      case rel => exact ⟨k + 1, by omega, .inr ⟨rfl, HG2⟩, by go_num⟩
                      case measure => simp [intOf]; omega
                  · have z1 : ¬ (97 : Int) ≤ (c.toNat : Int) := by omega
                    by_cases h2 : 48 ≤ c.toNat
                    · have z2 : (48 : Int) ≤ (c.toNat : Int) := by omega
                      by_cases h3 : c.toNat ≤ 57
                      · have z3 : (c.toNat : Int) ≤ 57 := by omega
                        have hcn : nb c.toNat = true := by simp [nb]; omega
                        have HG2 : Hid (goodTo key (k + 1) = true) := Lib.hid (by rw [goodTo_succ Hc.out, HGk.out, hcn]; rfl)
                        clear HGk Hc hcn
                        go_wp2
                        go_round
                        case rel => exact ⟨k + 1, by omega, .inl ⟨rfl, HG2⟩, by go_num⟩
                        case measure => simp [intOf]; omega
                      · have z3 : ¬ (c.toNat : Int) ≤ 57 := by omega
                        have hcn : nb c.toNat = false := by simp [nb]; omega
                        have HG2 : Hid (goodTo key (k + 1) = false) := Lib.hid (by rw [goodTo_succ Hc.out, HGk.out, hcn]; rfl)
                        clear HGk Hc hcn
                        go_wp2
                        go_round
                        case rel => exact ⟨k + 1, by omega, .inr ⟨rfl, HG2⟩, by go_num⟩
                        case measure => simp [intOf]; omega
                    · have z2 : ¬ (48 : Int) ≤ (c.toNat : Int) := by omega
                      have hcn : nb c.toNat = false := by simp [nb]; omega
                      have HG2 : Hid (goodTo key (k + 1) = false) := Lib.hid (by rw [goodTo_succ Hc.out, HGk.out, hcn]; rfl)
                      clear HGk Hc hcn
                      go_wp2
                      go_round
                      case rel => exact ⟨k + 1, by omega, .inr ⟨rfl, HG2⟩, by go_num⟩
                      case measure => simp [intOf]; omega
                · have hcn : True := trivial
                  have HG2 : Hid (goodTo key (k + 1) = false) := Lib.hid (by rw [goodTo_succ Hc.out, HGk.out]; rfl)
                  clear HGk Hc hcn
                  go_wp2
                  go_round
                  case rel => exact ⟨k + 1, by omega, .inr ⟨rfl, HG2⟩, by go_num⟩
                  case measure => simp [intOf]; omega
              · obtain rfl : k = key.size := by omega
                have hck := r_check ⟨0, 1, .slice none 0 0, [], key, val⟩ 1 w1 (Sl.nil _ 0 1).rd (by dsimp only; omega) (by dsimp only; omega) HG1.out
                rw [show Rc.check ⟨0, 1, .slice none 0 0, [], key, val⟩ 1 = rccell key.data.toList val.data.toList from rfl] at hck
                unfold Rc.v at hck
                dsimp only at hck
                rcases hg with ⟨rfl, HGk⟩ | ⟨rfl, HGk⟩
                · rw [show rccell key.data.toList val.data.toList = 0 by rw [cell_good HGk.out]; exact HW.out] at hck
                  clear HGk HW HG0
                  go_wp2_with fail
                  refine hck.mono ?_
                  rintro e w2 ⟨rfl, hf2⟩
                  clear hck
                  go_wp2
                  go_ret
                  exact ⟨rfl, F.out.trans' hf2⟩
                · rw [cell_bad HGk.out] at hck
                  clear HGk HW HG0
                  go_wp2_with fail
                  refine hck.mono ?_
                  rintro e w2 ⟨rfl, hf2⟩
                  clear hck
                  go_wp2
                  go_ret
                  exact ⟨rfl, F.out.trans' hf2⟩
set_option maxRecDepth 100000 in
theorem recKeys_row (a b : ByteArray) (w : World) (hG : GlU w) (h1 : a.size ≤ maxLen) (h2 : b.size ≤ maxLen) :
    Calls Tryz.prog 6 #[.string a, .string b] w fun e w' => e = .returned (.bool true) ∧ Below w.heap.size w w' := by
  refine (recKeys_any a b w hG).mono ?_
  rintro e w' ⟨he, hf⟩
  exact ⟨he, hf.below⟩
end Go.Proofs.YtgcjnhocoklfbaaGreatDoor
