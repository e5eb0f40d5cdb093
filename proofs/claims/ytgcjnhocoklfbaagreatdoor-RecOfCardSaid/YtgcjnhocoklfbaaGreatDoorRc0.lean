/- Package rec: records in memory; what is asked of the library's variables; the bytes of a name; Check. -/
import Derived.Test.YtgcjnhocoklfbaaGreatDoorVecP
import Derived.Test.YtgcjnhocoklfbaaGreatDoorNm
import Derived.Test.YtgcjnhocoklfbaaGreatDoorHeld
import Derived.Lib.ConvBytes
import Derived.Deep.QuietTactic
import Derived.BigQuiet
namespace Go.XL
open Go.RowKit Go.Shelf
set_option linter.unusedVariables false
set_option linter.unusedSimpArgs false
/-- a record: its site, number, what it hangs on (as it lies, as it reads), key, value -/
structure Rc where
  s : Int
  q : Int
  dv : Value
  dep : List Int
  key : ByteArray
  val : ByteArray
def Rc.v (r : Rc) : Value := .agg #[.int .i64 r.s, .int .i64 r.q, r.dv, .string r.key, .string r.val]
def RcOk (w : World) (r : Rc) : Prop := Rd w 1 r.dv r.dep.length (r.dep.map (Value.int .i64))
theorem RcOk.fr {w w' : World} {r : Rc} (h : RcOk w r) (hf : Fr no w w') : RcOk w' r := Rd.fr h hf (fun _ _ _ f => f)
def valOk (l : List UInt8) : Bool := l.all fun c => decide (33 ≤ c.toNat) && decide (c.toNat ≤ 126)
/-- of a key, a value -/
def rccell (key val : List UInt8) : Int :=
  if key.length < 1 ∨ 8 < key.length ∨ nameOk key = false then 3 else if valOk val = false then 2 else if 16 < val.length then 4 else 0
def rcheck (s q : Int) (dep : List Int) (key val : List UInt8) (sites : Int) : Int :=
  if sites < 1 ∨ 8 < sites ∨ s < 0 ∨ sites ≤ s ∨ q < 1 ∨ 1048576 < q then 1
  else if vcheck dep sites ≠ 0 then vcheck dep sites
  else if q ≤ vget dep s then 13 else rccell key val
def Rc.check (r : Rc) (sites : Int) : Int := rcheck r.s r.q r.dep r.key.data.toList r.val.data.toList sites
theorem fr_bytesW (w : World) (e : TypeId) (s : ByteArray) : Fr no w (Lib.bytesWorld w e s) :=
  ⟨rfl, rfl, rfl, by rw [Lib.bytesWorld_size]; omega, fun k hk _ => Lib.bytesWorld_at_old w e s k hk⟩
theorem data_len (s : ByteArray) : s.data.toList.length = s.size := Array.length_toList
theorem valOk_at {l : List UInt8} (h : valOk l = true) {j : Nat} {c : UInt8} (hj : l[j]? = some c) : 33 ≤ c.toNat ∧ c.toNat ≤ 126 := by
  have := List.all_eq_true.1 h c (List.mem_of_getElem? hj)
  simpa using this
/-- the first byte that may not be in a value -/
theorem valOk_bad {l : List UInt8} (h : valOk l = false) : ∃ (j : Nat) (c : UInt8), l[j]? = some c ∧ ¬ (33 ≤ c.toNat ∧ c.toNat ≤ 126) ∧ ∀ (i : Nat) (d : UInt8), i < j → l[i]? = some d → 33 ≤ d.toNat ∧ d.toNat ≤ 126 := by
  induction l with
  | nil => simp [valOk] at h
  | cons c l ih =>
    by_cases hc : 33 ≤ c.toNat ∧ c.toNat ≤ 126
    · have h2 : valOk l = false := by
        unfold valOk at h ⊢
        rw [List.all_cons] at h
        simpa [hc.1, hc.2] using h
      obtain ⟨j, d, h3, h4, h5⟩ := ih h2
      refine ⟨j + 1, d, by simpa using h3, h4, fun i e hi he => ?_⟩
      cases i with
      | zero => simp at he; subst he; exact hc
      | succ i => exact h5 i e (by omega) (by simpa using he)
    · exact ⟨0, c, rfl, hc, fun i d hi _ => by omega⟩
end Go.XL
namespace Go.Proofs.YtgcjnhocoklfbaaGreatDoor
open Go.RowKit Go.Shelf Go.XL
set_option linter.unusedVariables false
set_option linter.unusedSimpArgs false
attribute [local go_sem] Oper.semAt_some
/-- what is asked of the library's variables -/
structure GlU (w : World) : Prop where
  g : Gl w
  u : Lib.Utf8Tabs 1 2 w
theorem GlU.fr {w w' : World} (h : GlU w) (hf : Fr no w w') : GlU w' := ⟨h.g.fr hf, Utf8Tabs_below h.u hf.below⟩
set_option maxHeartbeats 1000000 in
theorem name_pred (w : World) : PredAt Tryz.prog 31 #[] encR nb w := fun W r _ => by
  unfold FnGives
  have key : Calls Tryz.prog 31 #[.int .i32 (r : Int)] W fun e w' => e = .returned (.bool (nb r)) ∧ W = w' := by
    by_cases h1 : 97 ≤ r
    · by_cases h2 : r ≤ 122
      · have z1 : (97 : Int) ≤ (r : Int) := by omega
        have z2 : (r : Int) ≤ 122 := by omega
        have e : nb r = true := by simp [nb, h1, h2]
        go_enter Tryz.func31, Tryz.ntmps31
        go_wp2
        go_ret
        first | (rw [e]; exact ⟨rfl, rfl⟩) | exact ⟨rfl, rfl⟩
      · have z1 : (97 : Int) ≤ (r : Int) := by omega
        have z2 : ¬ (r : Int) ≤ 122 := by omega
        have z3 : (48 : Int) ≤ (r : Int) := by omega
        have z4 : ¬ (r : Int) ≤ 57 := by omega
        have e : nb r = false := by simp [nb, h2]; omega
        go_enter Tryz.func31, Tryz.ntmps31
        go_wp2
        go_ret
        first | (rw [e]; exact ⟨rfl, rfl⟩) | exact ⟨rfl, rfl⟩
    · by_cases h3 : 48 ≤ r
      · by_cases h4 : r ≤ 57
        · have z1 : ¬ (97 : Int) ≤ (r : Int) := by omega
          have z3 : (48 : Int) ≤ (r : Int) := by omega
          have z4 : (r : Int) ≤ 57 := by omega
          have e : nb r = true := by simp [nb, h3, h4]
          go_enter Tryz.func31, Tryz.ntmps31
          go_wp2
          go_ret
          first | (rw [e]; exact ⟨rfl, rfl⟩) | exact ⟨rfl, rfl⟩
        · have z1 : ¬ (97 : Int) ≤ (r : Int) := by omega
          have z3 : (48 : Int) ≤ (r : Int) := by omega
          have z4 : ¬ (r : Int) ≤ 57 := by omega
          have e : nb r = false := by simp [nb, h1, h4]
          go_enter Tryz.func31, Tryz.ntmps31
          go_wp2
          go_ret
          first | (rw [e]; exact ⟨rfl, rfl⟩) | exact ⟨rfl, rfl⟩
      · have z1 : ¬ (97 : Int) ≤ (r : Int) := by omega
        have z3 : ¬ (48 : Int) ≤ (r : Int) := by omega
        have e : nb r = false := by simp [nb, h1, h3]
        go_enter Tryz.func31, Tryz.ntmps31
        go_wp2
        go_ret
        first | (rw [e]; exact ⟨rfl, rfl⟩) | exact ⟨rfl, rfl⟩
  refine key.mono ?_
  rintro e w' ⟨rfl, rfl⟩
  exact ⟨rfl, 0, rfl⟩
/-- strings.TrimFunc at a name's bytes: nothing is left, or something -/
theorem s_trimName (key : ByteArray) (w : World) (hs : key.size ≤ 1000000) (hG : GlU w) :
    Calls Tryz.prog 30 #[.string key, .func (.func 31) #[] #[]] w fun e w' => ∃ t : ByteArray, e = .returned (.string t) ∧ (t.toList == []) = nameOk key.data.toList ∧ Fr no w w' := by
  refine (Tryz.strings_TrimFunc_laid 31 #[] (enters_of Tryz.func31 (by kernel_rfl) rfl) nb key w (by omega) hG.u (name_pred w)).mono ?_
  rintro e w' ⟨rfl, hb⟩
  refine ⟨_, rfl, ?_, Fr.of_below hb⟩
  cases h : nameOk key.data.toList with
  | true => rw [trim_ok h, ByteArray.toList_eq]; rfl
  | false =>
    have h2 := trim_bad h
    rw [ByteArray.toList_eq]
    simpa using h2
end Go.Proofs.YtgcjnhocoklfbaaGreatDoor
