/- Contract of the reference's find. -/
import Derived.Test.YtgcjnhocoklfbaaGreatDoorRefP
namespace Go.XL
open Go.RowKit Go.Shelf
set_option linter.unusedVariables false
/-- where a byte is, from a place on -/
def ffrom (b : UInt8) (l : List UInt8) (k : Nat) : Int := match (l.drop k).findIdx? (fun c => c == b) with | some i => (k + i : Nat) | none => -1
theorem ffrom_hit {b : UInt8} {l : List UInt8} {k : Nat} (h : l[k]? = some b) : ffrom b l k = k := by
  obtain ⟨hk, hx⟩ := List.getElem?_eq_some_iff.1 h
  unfold ffrom
  rw [List.drop_eq_getElem_cons hk, hx, List.findIdx?_cons]
  simp
theorem ffrom_miss {b c : UInt8} {l : List UInt8} {k : Nat} (h : l[k]? = some c) (hc : c ≠ b) : ffrom b l k = ffrom b l (k + 1) := by
  obtain ⟨hk, hx⟩ := List.getElem?_eq_some_iff.1 h
  unfold ffrom
  rw [List.drop_eq_getElem_cons hk, hx, List.findIdx?_cons]
  have : (c == b) = false := by simpa using hc
  rw [this]
  cases List.findIdx? (fun c => c == b) (l.drop (k + 1)) with
  | none => rfl
  | some i => simp; omega
theorem ffrom_end {b : UInt8} {l : List UInt8} {k : Nat} (h : l.length ≤ k) : ffrom b l k = -1 := by
  unfold ffrom
  rw [List.drop_eq_nil_of_le h]; rfl
end Go.XL
namespace Go.Proofs.YtgcjnhocoklfbaaGreatDoor
open Go.RowKit Go.Shelf Go.XL
set_option linter.unusedVariables false
set_option linter.unusedSimpArgs false
attribute [local go_sem] Oper.semAt_some
set_option maxRecDepth 100000 in
set_option maxHeartbeats 2000000 in
theorem ref_find (s : ByteArray) (b : UInt8) (k0 : Nat) (w : World) (hs : s.size ≤ 1099511627776) (hk : k0 ≤ 1099511627776) :
    Calls Tryz.prog 44 #[.string s, .int .u8 b.toNat, .int .i64 k0] w fun e w' => e = .returned (.int .i64 (ffrom b s.data.toList k0)) ∧ w = w' := by
  have Hlen := Lib.hid (str_len s)
  generalize hl : s.data.toList = l at *
  have Hl := Lib.hid hl
  clear hl
  obtain ⟨r, hr⟩ : ∃ r, ffrom b l k0 = r := ⟨_, rfl⟩
  rw [hr]
  have Hr := Lib.hid hr
  clear hr
  go_enter Tryz.func44, Tryz.ntmps44
  go_wp2_with fail
  go_loop [7] (fun jv => ∃ (j : Nat), j ≤ 1099511627777 ∧ jv = .int .i64 j ∧ Hid (ffrom b l j = r)) (fun jv => s.size - (intOf jv).toNat)
  case atStart => exact ⟨k0, by omega, rfl, Hr⟩
  case round =>
    obtain ⟨j, hj, rfl, HB⟩ := hrel
    by_cases hlt : j < s.size
    · obtain ⟨c, hc0, hc⟩ := str_at s j hlt
      rw [Hl.out] at hc
      by_cases hcb : c = b
      · subst hcb
        have hrj : r = j := by rw [← HB.out]; exact ffrom_hit hc
        have Hrj := Lib.hid hrj
        clear hc HB hrj
        go_wp2
        go_ret
        exact ⟨by rw [Hrj.out]; rfl, rfl⟩
      · have HB2 : Hid (ffrom b l (j + 1) = r) := Lib.hid (by rw [← HB.out]; exact (ffrom_miss hc hcb).symm)
        have hcb2 : ¬ (c.toNat : Int) = b.toNat := fun e => hcb (UInt8.toNat_inj.1 (by omega))
        clear hc HB hcb
        go_wp2
        go_round
        case rel => exact ⟨j + 1, by omega, by go_num, HB2⟩
        case measure => simp [intOf]; omega
    · have hr1 : r = -1 := by rw [← HB.out]; exact ffrom_end (by rw [Hlen.out]; omega)
      have Hr1 := Lib.hid hr1
      clear hr1
      go_wp2
      go_ret
      exact ⟨by rw [Hr1.out]; rfl, rfl⟩
end Go.Proofs.YtgcjnhocoklfbaaGreatDoor
