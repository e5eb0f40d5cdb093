/- The laws' known, for nets. -/
import Derived.Test.YtbjipgignnaomaaNetI
import Derived.Test.YtbjipgignnaomaaPairs
namespace Go.XL
theorem sendL_len {s : Int} {L : Int → Int → List Int} {C : Int → Int → Bool} {a b x : Int} {n : Nat} (h : ∀ c d, (L c d).length ≤ n) : ∀ c d, (sendL s L C a b x c d).length ≤ n + 1 := by
  intro c d
  unfold sendL
  split
  · unfold upd2
    split
    · rw [List.length_append]; have := h a b; simp; omega
    · have := h c d; omega
  · have := h c d; omega
theorem eraseL_len {L : Int → Int → List Int} {a b : Int} {k n : Nat} (h : ∀ c d, (L c d).length ≤ n) : ∀ c d, (upd2 L a b ((L a b).eraseIdx k) c d).length ≤ n := by
  intro c d
  unfold upd2
  split
  · have := h a b
    have := List.length_eraseIdx_le (L a b) k
    omega
  · exact h c d
def kL0 : Int → Int → List Int := fun _ _ => []
def kC0 : Int → Int → Bool := fun _ _ => false
def kL1 := sendL 3 kL0 kC0 0 1 7
def kL2 := sendL 3 kL1 kC0 0 1 8
def kL3 := sendL 3 kL2 kC0 0 1 8
def kC1 := upd2 (upd2 kC0 1 0 true) 0 1 true
def kC2 := upd2 (upd2 kC1 0 1 false) 1 0 false
def kL5 := upd2 kL3 0 1 ((kL3 0 1).eraseIdx 1)
theorem kfacts : sendR 3 kL0 kC0 0 1 = 0 ∧ sendR 3 kL1 kC0 0 1 = 0 ∧ sendR 3 kL2 kC0 0 1 = 0 ∧ sendR 3 kL3 kC1 0 1 = 11 ∧ sendR 3 kL5 kC2 1 1 = 1 ∧ kL2 0 1 = [7, 8] ∧ kL3 0 1 = [7, 8, 8] ∧ lenRows kL5 3 3 = 2 ∧ kL5 1 2 = [] ∧ kC1 0 1 = true ∧ kC2 0 1 = false ∧ kC2 1 2 = false ∧ isPair 3 1 2 = true := by decide +kernel
theorem kL5_len : ∀ a b, (kL5 a b).length ≤ 1000 := fun a b => by
  have := eraseL_len (a := 0) (b := 1) (k := 1) (sendL_len (s := 3) (C := kC0) (a := 0) (b := 1) (x := 8) (sendL_len (s := 3) (C := kC0) (a := 0) (b := 1) (x := 8) (sendL_len (s := 3) (L := kL0) (C := kC0) (a := 0) (b := 1) (x := 7) (n := 0) (fun _ _ => Nat.le_refl _)))) a b
  exact Nat.le_trans this (by decide)
theorem kL3_send : sendL 3 kL3 kC1 0 1 9 = kL3 := by unfold sendL; rw [if_neg (by rw [kfacts.2.2.2.1]; decide)]
end Go.XL
namespace Go.Proofs.Ytbjipgignnaomaa
open Go.RowKit Go.Shelf Go.XL
set_option linter.unusedVariables false
set_option linter.unusedSimpArgs false
attribute [local go_sem] Oper.semAt_some

set_option maxRecDepth 100000 in
set_option maxHeartbeats 8000000 in
theorem known_any (w : World) : Calls Try.prog 6 #[] w fun e w' => e = .returned (.bool true) ∧ Fr no w w' := by
  have hdom : ∀ a b : Int, (0 ≤ a ∧ a ≤ 5) → (0 ≤ b ∧ b ≤ 5) → (-9223372036854775808 ≤ a ∧ a ≤ 9223372036854775807) ∧ (-9223372036854775808 ≤ b ∧ b ≤ 9223372036854775807) := fun a b h1 h2 => by omega
  obtain ⟨d1, d2⟩ := hdom 0 1 (by decide) (by decide)
  have D1 := Lib.hid d1
  have D2 := Lib.hid d2
  clear d1 d2 hdom
  go_enter Try.func6, Try.ntmps6
  go_wp2_with fail
  refine (netNewI 3 w (by decide) (by decide)).mono ?_
  rintro e w1 ⟨p, b1, b2, rfl, hN1, hf1, hown⟩
  have N1 : Hid (NtI w1 p b1 b2 3 0 kL0 kC0 (fun _ _ => .slice none 0 0)) := Lib.hid hN1
  have F1 := Lib.hid hf1
  have O1 := Lib.hid hown
  clear hN1 hf1 hown
  go_wp2_with fail
  refine (netNewI_bad 9 w1 (by decide)).mono ?_
  rintro e w' ⟨rfl, rfl⟩
  go_wp2_with fail
  refine (sendI 0 1 7 N1.out D1.out D2.out (by decide)).mono ?_
  rw [kfacts.1]
  rintro e w2 ⟨rfl, V2, hN2, hf2, ho2⟩
  have N2 : Hid (NtI w2 p b1 b2 3 1 kL1 kC0 V2) := Lib.hid hN2
  have F2 : Hid (Fr no w w2) := Lib.hid (F1.out.trans hf2 (fun i hi e => by have := O1.out i e; omega))
  have O2 : Hid (∀ g, NetOwn p b1 b2 V2 g → w.heap.size ≤ g) := Lib.hid (fun g hg => (ho2 g hg).elim (fun h => O1.out g h) (fun h => Nat.le_trans F1.out.size h))
  clear hN2 hf2 ho2 N1 F1 O1
  go_wp2_with fail
  refine (sendI 0 1 8 N2.out D1.out D2.out (by decide)).mono ?_
  rw [kfacts.2.1]
  rintro e w3 ⟨rfl, V3, hN3, hf3, ho3⟩
  have N3 : Hid (NtI w3 p b1 b2 3 2 kL2 kC0 V3) := Lib.hid hN3
  have F3 : Hid (Fr no w w3) := Lib.hid (F2.out.trans hf3 (fun i hi e => by have := O2.out i e; omega))
  have O3 : Hid (∀ g, NetOwn p b1 b2 V3 g → w.heap.size ≤ g) := Lib.hid (fun g hg => (ho3 g hg).elim (fun h => O2.out g h) (fun h => Nat.le_trans F2.out.size h))
  clear hN3 hf3 ho3 N2 F2 O2
  go_wp2_with fail
  refine (copyYesI 0 1 3 1 8 N3.out (by decide) (by decide) rfl (by rw [kfacts.2.2.2.2.2.1]; decide) (by rw [kfacts.2.2.2.2.2.1]; rfl) (by rw [kfacts.2.2.2.2.2.1]; decide)).mono ?_
  rw [kfacts.2.2.1]
  rintro e w4 ⟨rfl, V4, hN4, hf4, ho4⟩
  have N4 : Hid (NtI w4 p b1 b2 3 3 kL3 kC0 V4) := Lib.hid hN4
  have F4 : Hid (Fr no w w4) := Lib.hid (F3.out.trans hf4 (fun i hi e => by have := O3.out i e; omega))
  have O4 : Hid (∀ g, NetOwn p b1 b2 V4 g → w.heap.size ≤ g) := Lib.hid (fun g hg => (ho4 g hg).elim (fun h => O3.out g h) (fun h => Nat.le_trans F3.out.size h))
  clear hN4 hf4 ho4 N3 F3 O3
  go_wp2_with fail
  refine (cutI 1 0 true N4.out (by decide) (by decide)).mono ?_
  rintro e w5 ⟨rfl, hN5, hf5⟩
  have N5 : Hid (NtI w5 p b1 b2 3 5 kL3 kC1 V4) := Lib.hid hN5
  have F5 : Hid (Fr no w w5) := Lib.hid (F4.out.trans hf5 (fun i hi e => by have := O4.out i (.inr (.inr (.inl e))); omega))
  clear hN5 hf5 N4 F4
  go_wp2_with fail
  refine (takeNoI 0 1 0 N5.out D1.out D2.out (.inr kfacts.2.2.2.2.2.2.2.2.2.1)).mono ?_
  rintro e w6 ⟨rfl, hf6⟩
  have N6 := Lib.hid (N5.out.fr0 hf6)
  have F6 := Lib.hid (F5.out.trans' hf6)
  clear hf6 N5 F5
  go_wp2_with fail
  refine (sendI 0 1 9 N6.out D1.out D2.out (by decide)).mono ?_
  rw [kfacts.2.2.2.1, kL3_send]
  rintro e w7 ⟨rfl, V7, hN7, hf7, ho7⟩
  have N7 : Hid (NtI w7 p b1 b2 3 6 kL3 kC1 V7) := Lib.hid hN7
  have F7 : Hid (Fr no w w7) := Lib.hid (F6.out.trans hf7 (fun i hi e => by have := O4.out i e; omega))
  have O7 : Hid (∀ g, NetOwn p b1 b2 V7 g → w.heap.size ≤ g) := Lib.hid (fun g hg => (ho7 g hg).elim (fun h => O4.out g h) (fun h => Nat.le_trans F6.out.size h))
  clear hN7 hf7 ho7 N6 F6 O4
  go_wp2_with fail
  refine (cutI 0 1 false N7.out (by decide) (by decide)).mono ?_
  rintro e w8 ⟨rfl, hN8, hf8⟩
  have N8 : Hid (NtI w8 p b1 b2 3 8 kL3 kC2 V7) := Lib.hid hN8
  have F8 : Hid (Fr no w w8) := Lib.hid (F7.out.trans hf8 (fun i hi e => by have := O7.out i (.inr (.inr (.inl e))); omega))
  clear hN8 hf8 N7 F7
  go_wp2_with fail
  refine (wayI p 0 1 w8).mono ?_
  rintro e w9 ⟨rfl, hw9⟩
  obtain ⟨hpre, hf9⟩ := wayPreI (0 : Int) (1 : Int) N8.out hw9
  have F9 := Lib.hid (F8.out.trans' hf9)
  have N9 := Lib.hid (N8.out.fr0 hf9)
  have Hpre := Lib.hid hpre
  have hls : enumG (kL3 0 1) 0 = [(0, 7), (1, 8), (2, 8)] := by rw [kfacts.2.2.2.2.2.2.1]; rfl
  have hit := wayIterI w8.heap.size p b1 b2 3 8 kL3 kC2 V7 0 1 D1.out D2.out
  rw [hls] at hit
  have Hit := Lib.hid hit
  clear hw9 hpre hf9 N8 F8 hls hit
  go_wp2_with fail
  refine (law_pairs [(0, 7), (1, 8), (2, 8)] 9 w9 (fun w => by kernel_rfl) (enters_of Try.func26 (by kernel_rfl) rfl) Hit.out (fun W hf => Hpre.out.fr hf (fun _ f => f.elim)) (by decide) (by decide)).mono ?_
  rintro e w10 ⟨ao, ac, bo, bc, rfl, hA, hB, hf10, hfr⟩
  have N10 := Lib.hid (N9.out.fr0 hf10)
  have F10 := Lib.hid (F9.out.trans' hf10)
  have A10 := Lib.hid hA
  have B10 := Lib.hid hB
  have R10 : Hid (∀ g, Value.ownBlock (.slice ao 3 ac) = some g ∨ Value.ownBlock (.slice bo 3 bc) = some g → ¬ NetOwn p b1 b2 V7 g) := Lib.hid (fun g hg ho => by have h1 := hfr g hg; have := N9.out.lt g ho; omega)
  clear hA hB hf10 hfr N9 F9 Hpre Hit
  go_wp2_with fail
  refine (takeYesI 0 1 4 1 8 N10.out D1.out D2.out (by decide) kfacts.2.2.2.2.2.2.2.2.2.2.1 (by rw [kfacts.2.2.2.2.2.2.1]; decide) (by rw [kfacts.2.2.2.2.2.2.1]; rfl) (by rw [kfacts.2.2.2.2.2.2.1]; decide)).mono ?_
  rintro e w11 ⟨rfl, V11, hN11, hf11, ho11⟩
  have N11 : Hid (NtI w11 p b1 b2 3 9 kL5 kC2 V11) := Lib.hid hN11
  have F11 : Hid (Fr no w w11) := Lib.hid (F10.out.trans hf11 (fun i hi e => by have := O7.out i e; omega))
  have O11 : Hid (∀ g, NetOwn p b1 b2 V11 g → w.heap.size ≤ g) := Lib.hid (fun g hg => (ho11 g hg).elim (fun h => O7.out g h) (fun h => Nat.le_trans F10.out.size h))
  have A11 := Lib.hid (A10.out.fr hf11 (fun g hg _ => R10.out g (.inl hg)))
  have B11 := Lib.hid (B10.out.fr hf11 (fun g hg _ => R10.out g (.inr hg)))
  clear hN11 hf11 ho11 N10 F10 O7 A10 B10 R10
  go_wp2_with fail
  have hf12 : Fr no w11 (w11.alloc (.cells #[.int .i64 0, .int .i64 1, .int .i64 2] 3)) := (Fr.refl no w11).alloc _
  refine (law_ints _ _ [0, 1, 2] [0, 1, 2] _ (A11.out.fr hf12 (fun _ _ _ f => f)) (rd_lit w11 3 [.int .i64 0, .int .i64 1, .int .i64 2] (by decide))).mono ?_
  rw [show decide (([0, 1, 2] : List Int) = [0, 1, 2]) = true by decide]
  rintro e w12 ⟨rfl, hf12'⟩
  have N12 := Lib.hid (N11.out.fr0 (hf12.trans' hf12'))
  have F12 := Lib.hid (F11.out.trans' (hf12.trans' hf12'))
  have B12 := Lib.hid (B11.out.fr (hf12.trans' hf12') (fun _ _ _ f => f))
  clear hf12 hf12' A11 B11 N11 F11
  go_wp2_with fail
  have hf13 : Fr no w12 (w12.alloc (.cells #[.int .i64 7, .int .i64 8, .int .i64 8] 3)) := (Fr.refl no w12).alloc _
  refine (law_ints _ _ [7, 8, 8] [7, 8, 8] _ (B12.out.fr hf13 (fun _ _ _ f => f)) (rd_lit w12 3 [.int .i64 7, .int .i64 8, .int .i64 8] (by decide))).mono ?_
  rw [show decide (([7, 8, 8] : List Int) = [7, 8, 8]) = true by decide]
  rintro e w13 ⟨rfl, hf13'⟩
  have N13 := Lib.hid (N12.out.fr0 (hf13.trans' hf13'))
  have F13 := Lib.hid (F12.out.trans' (hf13.trans' hf13'))
  clear hf13 hf13' B12 N12 F12
  go_wp2_with fail
  have hlen := lenI (n := 3) N13.out kL5_len
  rw [kfacts.2.2.2.2.2.2.2.1] at hlen
  refine hlen.mono ?_
  clear hlen
  rintro e w14 ⟨rfl, hf14⟩
  have N14 := Lib.hid (N13.out.fr0 hf14)
  have F14 := Lib.hid (F13.out.trans' hf14)
  clear hf14 N13 F13
  go_wp2_with fail
  refine (copyNoI 1 2 0 3 N14.out (by omega) (by omega) (.inr (.inr ⟨kfacts.2.2.2.2.2.2.2.2.2.2.2.2, kfacts.2.2.2.2.2.2.2.2.2.2.2.1, kfacts.2.2.2.2.2.2.2.2.1, rfl⟩))).mono ?_
  rintro e w15 ⟨rfl, hf15⟩
  have N15 := Lib.hid (N14.out.fr0 hf15)
  have F15 := Lib.hid (F14.out.trans' hf15)
  clear hf15 N14 F14
  go_wp2_with fail
  refine (sendI 1 1 0 N15.out (by omega) (by omega) (by decide)).mono ?_
  rw [kfacts.2.2.2.2.1]
  rintro e w16 ⟨rfl, V16, hN16, hf16, ho16⟩
  have F16 : Hid (Fr no w w16) := Lib.hid (F15.out.trans hf16 (fun i hi e => by have := O11.out i e; omega))
  clear hN16 hf16 ho16 N15 F15
  go_wp2
  go_ret
  exact ⟨rfl, F16.out⟩
end Go.Proofs.Ytbjipgignnaomaa
