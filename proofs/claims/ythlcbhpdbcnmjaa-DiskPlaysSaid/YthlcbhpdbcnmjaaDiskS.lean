/- Disks that a law has made, one or two; known. -/
import Derived.Test.YthlcbhpdbcnmjaaDiskK
namespace Go.XL
open Go.RowKit Go.Shelf
set_option linter.unusedVariables false

/-- what a call on a disk has done -/
structure DStep (Ts Td : TypeId) (W W' : World) (p : Nat) (v v' : Value) (room : Int) (ls : List ByteArray) (lasts : Nat) : Prop where
  st : DkAt Ts Td W' p v' room ls lasts
  fr : Fr (dOwn p v) W W'
  own : ∀ g, dOwn p v' g → dOwn p v g ∨ W.heap.size ≤ g
/-- a disk made since w -/
structure DkSt (Ts Td : TypeId) (w W : World) (p : Nat) (v : Value) (room : Int) (ls : List ByteArray) (lasts : Nat) : Prop where
  st : DkAt Ts Td W p v room ls lasts
  fr : Fr no w W
  own : ∀ g, dOwn p v g → w.heap.size ≤ g
def Apart (p : Nat) (v : Value) (q : Nat) (u : Value) : Prop := ∀ g, dOwn p v g → ¬ dOwn q u g
variable {Ts Td Te : TypeId} {w W W' : World} {p q : Nat} {v v' u : Value} {room r2 r3 : Int} {ls ls2 ls3 : List ByteArray} {lasts n2 n3 : Nat}
theorem Apart.symm (h : Apart p v q u) : Apart q u p v := fun g h1 h2 => h g h2 h1
theorem DkSt.step (h : DkSt Ts Td w W p v room ls lasts) (k : DStep Ts Td W W' p v v' r2 ls2 n2) : DkSt Ts Td w W' p v' r2 ls2 n2 :=
  ⟨k.st, h.fr.trans k.fr (fun i hi e => by have := h.own i e; omega), fun g hg => (k.own g hg).elim (h.own g) (Nat.le_trans h.fr.size)⟩
theorem DkSt.fr0 (h : DkSt Ts Td w W p v room ls lasts) (hf : Fr no W W') : DkSt Ts Td w W' p v room ls lasts := ⟨h.st.fr0 hf, h.fr.trans' hf, h.own⟩
theorem Apart.step (h : Apart p v q u) (k : DStep Ts Td W W' p v v' r2 ls2 n2) (hq : DkAt Ts Te W q u r3 ls3 n3) : Apart p v' q u := fun g hg h2 =>
  (k.own g hg).elim (fun h1 => h g h1 h2) (fun h1 => by have := hq.lt g h2; omega)
theorem DkSt.other (h : DkSt Ts Te w W q u r3 ls3 n3) (hp : DkSt Ts Td w W p v room ls lasts) (k : DStep Ts Td W W' p v v' r2 ls2 n2) (ha : Apart p v q u) : DkSt Ts Te w W' q u r3 ls3 n3 :=
  ⟨h.st.fr k.fr (fun g hg e => ha g e hg), h.fr.trans k.fr (fun i hi e => by have := hp.own i e; omega), h.own⟩
/-- two of them -/
structure Dk2 (Ts Td Te : TypeId) (w W : World) (p : Nat) (v : Value) (room : Int) (ls : List ByteArray) (lasts : Nat) (q : Nat) (u : Value) (r2 : Int) (ls2 : List ByteArray) (n2 : Nat) : Prop where
  one : DkSt Ts Td w W p v room ls lasts
  two : DkSt Ts Te w W q u r2 ls2 n2
  ap : Apart p v q u
theorem Dk2.fr0 (h : Dk2 Ts Td Te w W p v room ls lasts q u r2 ls2 n2) (hf : Fr no W W') : Dk2 Ts Td Te w W' p v room ls lasts q u r2 ls2 n2 := ⟨h.one.fr0 hf, h.two.fr0 hf, h.ap⟩
theorem Dk2.swap (h : Dk2 Ts Td Te w W p v room ls lasts q u r2 ls2 n2) : Dk2 Ts Te Td w W q u r2 ls2 n2 p v room ls lasts := ⟨h.two, h.one, h.ap.symm⟩
theorem Dk2.step (h : Dk2 Ts Td Te w W p v room ls lasts q u r2 ls2 n2) (k : DStep Ts Td W W' p v v' r3 ls3 n3) : Dk2 Ts Td Te w W' p v' r3 ls3 n3 q u r2 ls2 n2 :=
  ⟨h.one.step k, h.two.other h.one k h.ap, h.ap.step k h.two.st⟩
theorem Dk2.step2 (h : Dk2 Ts Td Te w W p v room ls lasts q u r2 ls2 n2) {u' : Value} (k : DStep Ts Te W W' q u u' r3 ls3 n3) : Dk2 Ts Td Te w W' p v room ls lasts q u' r3 ls3 n3 := (h.swap.step k).swap
/-- one that has just been made -/
theorem DkSt.new (hf : Fr no w W) (h : DkAt Ts Td W' p v room ls lasts) (hf' : Fr no W W') (ho : ∀ g, dOwn p v g → W.heap.size ≤ g) : DkSt Ts Td w W' p v room ls lasts :=
  ⟨h, hf.trans' hf', fun g hg => Nat.le_trans hf.size (ho g hg)⟩
theorem DkSt.two (h : DkSt Ts Td w W p v room ls lasts) (hq : DkAt Ts Te W' q u r2 ls2 n2) (hf' : Fr no W W') (ho : ∀ g, dOwn q u g → W.heap.size ≤ g) : Dk2 Ts Td Te w W' p v room ls lasts q u r2 ls2 n2 :=
  ⟨h.fr0 hf', .new h.fr hq hf' ho, fun g h1 h2 => by have := ho g h2; have := h.st.lt g h1; omega⟩
/-- what is there behind Cut -/
def dCutL (ls : List ByteArray) (lasts : Nat) (k : Int) : List ByteArray := if (if k < 0 ∨ (ls.length : Int) < k then (1 : Int) else if lasts < ls.length then 12 else 0) = 0 then ls.take k.toNat else ls
def dCutN (ls : List ByteArray) (lasts : Nat) (k : Int) : Nat := if (if k < 0 ∨ (ls.length : Int) < k then (1 : Int) else if lasts < ls.length then 12 else 0) = 0 then k.toNat else lasts

abbrev kA : ByteArray := ⟨#[97, 98, 99]⟩
abbrev kD : ByteArray := ⟨#[100, 101, 102, 103]⟩
abbrev kX : ByteArray := ⟨#[120]⟩
abbrev kN : ByteArray := ⟨#[48, 49, 50, 51, 52, 53, 54, 55, 56, 57]⟩
abbrev kE : ByteArray := ⟨#[97, 10, 98]⟩
theorem kfacts : dWriteR 20 [] kA = 0 ∧ dWriteR 20 [kA] kD = 0 ∧ dWriteR 20 [kA, kD] kX = 0 ∧ dWriteR 20 [kA, kD, kX] kN = 6 ∧ crashN [kA, kD, kX] 1 6 = 2 ∧ dUsed [kA, kD] = 9 ∧ dWriteR 20 [kA, kD] kE = 2 := by decide +kernel
theorem kL1 : dWriteL 20 [] kA = [kA] := by unfold dWriteL; rw [if_pos kfacts.1]; rfl
theorem kL2 : dWriteL 20 [kA] kD = [kA, kD] := by unfold dWriteL; rw [if_pos kfacts.2.1]; rfl
theorem kL3 : dWriteL 20 [kA, kD] kX = [kA, kD, kX] := by unfold dWriteL; rw [if_pos kfacts.2.2.1]; rfl
theorem kL4 : dWriteL 20 [kA, kD, kX] kN = [kA, kD, kX] := by unfold dWriteL; rw [if_neg (by rw [kfacts.2.2.2.1]; decide)]
theorem kL5 : dWriteL 20 [kA, kD] kE = [kA, kD] := by unfold dWriteL; rw [if_neg (by rw [kfacts.2.2.2.2.2.2]; decide)]
end Go.XL
namespace Go.Proofs.Ythlcbhpdbcnmjaa
open Go.RowKit Go.Shelf Go.XL
set_option linter.unusedVariables false
set_option linter.unusedSimpArgs false
attribute [local go_sem] Oper.semAt_some
abbrev DkS := DStep 9 58
abbrev DkO := DkSt 9 58
abbrev DkD := Dk2 9 58 58
variable {p : Nat} {v : Value} {room : Int} {ls : List ByteArray} {lasts : Nat} {w : World}

theorem dNewS (r : Int) (w w0 : World) (h0 : Fr no w0 w) (h1 : 1 ≤ r) (h2 : r ≤ 1048576) : Calls Try.prog 10 #[.int .i64 r] w fun e w' => ∃ p v, e = .returned (.tuple #[.pointer (some ⟨p, 0, none⟩), .int .i64 0]) ∧ DkO w0 w' p v r [] 0 :=
  (dNew r w h1 h2).mono fun e w' ⟨h3, h4, h5⟩ => ⟨_, _, h3, .new h0 h4 h5 (fun g hg => by
    rcases hg with rfl | hg
    · exact Nat.le_refl _
    · simp [Value.ownBlock] at hg)⟩
theorem dWriteS (s : ByteArray) (hs : s.size ≤ 1000000) (h : Dk w p v room ls lasts) : Calls Try.prog 12 #[.pointer (some ⟨p, 0, none⟩), .string s] w fun e w' =>
    e = .returned (.int .i64 (dWriteR room ls s)) ∧ ∃ v', DkS w w' p v v' room (dWriteL room ls s) lasts :=
  (dWrite s hs h).mono fun e w' ⟨h1, v', h2, h3, h4⟩ => ⟨h1, v', h2, h3, h4⟩
theorem dSyncS (h : Dk w p v room ls lasts) : Calls Try.prog 14 #[.pointer (some ⟨p, 0, none⟩)] w fun e w' => ∃ x, e = .returned x ∧ DkS w w' p v v room ls ls.length :=
  (dSync h).mono fun e w' ⟨⟨x, h1⟩, h2, h3⟩ => ⟨x, h1, h2, h3.mono (fun _ _ e => .inl e), fun g hg => .inl hg⟩
theorem dCrashS (keep : Int) (hk : keep ≤ 9223372036854775807) (h : Dk w p v room ls lasts) : Calls Try.prog 16 #[.pointer (some ⟨p, 0, none⟩), .int .i64 keep] w fun e w' =>
    ∃ x v', e = .returned x ∧ DkS w w' p v v' room (ls.take (crashN ls lasts keep)) (crashN ls lasts keep) :=
  (dCrash keep h hk).mono fun e w' ⟨⟨x, h1⟩, v', h2, h3, h4⟩ => ⟨x, v', h1, h2, h3, fun g hg => .inl (h4 g hg)⟩
theorem dCutS (k : Int) (h : Dk w p v room ls lasts) : Calls Try.prog 18 #[.pointer (some ⟨p, 0, none⟩), .int .i64 k] w fun e w' =>
    e = .returned (.int .i64 (dCutR ls lasts k)) ∧ ∃ v', DkS w w' p v v' room (dCutL ls lasts k) (dCutN ls lasts k) := by
  by_cases hr : dCutR ls lasts k = 0
  · have hl : dCutL ls lasts k = ls.take k.toNat := if_pos hr
    have hn : dCutN ls lasts k = k.toNat := if_pos hr
    rw [hl, hn, hr]
    have h0 : ¬ (k < 0 ∨ (ls.length : Int) < k) := fun e => by rw [dCutR, if_pos e] at hr; cases hr
    have h1 : ¬ lasts < ls.length := fun e => by rw [dCutR, if_neg h0, if_pos e] at hr; cases hr
    have := h.lasts
    have hc := dCut k.toNat h (by omega) (by omega)
    rw [show ((k.toNat : Nat) : Int) = k by omega] at hc
    exact hc.mono fun e w' ⟨h1, v', h2, h3, h4⟩ => ⟨h1, v', h2, h3, fun g hg => .inl (h4 g hg)⟩
  · have hl : dCutL ls lasts k = ls := if_neg hr
    have hn : dCutN ls lasts k = lasts := if_neg hr
    rw [hl, hn]
    exact (dCutNo k h hr).mono fun e w' ⟨h1, h2⟩ => ⟨h1, v, h.fr0 h2, h2.mono (fun _ _ f => f.elim), fun g hg => .inl hg⟩
/-- Lines and the laws' Lines -/
theorem dLinesW (h : Dk w p v room ls lasts) : Calls Try.prog 22 #[.pointer (some ⟨p, 0, none⟩)] w fun e w' => ∃ c, e = .returned (.func (.func 31) #[] #[.pointer (some ⟨c, 0, none⟩)]) ∧ Fr no w w' ∧ w'.cell? ⟨c, 0, none⟩ = some v ∧ c < w'.heap.size :=
  (dLines h).mono fun e w' ⟨h1, h2⟩ => ⟨_, h1, h2 ▸ ((Fr.refl no w).alloc _), by rw [← h2]; exact cell_of_block (World.alloc_heap_new w _) rfl, by rw [← h2]; simp⟩
theorem law_linesD {c : Nat} (h : Dk w p v room ls lasts) (hc : w.cell? ⟨c, 0, none⟩ = some v) (most : Int) (n : Nat) (hn : ls.length = n) (hlen : (n : Int) ≤ most) (hm : most ≤ 1000) :
    Calls Try.prog 21 #[.func (.func 31) #[] #[.pointer (some ⟨c, 0, none⟩)], .int .i64 most] w fun e w' => ∃ ao ac, e = .returned (.tuple #[.slice ao n ac, .bool true]) ∧ Rd w' 1 (.slice ao n ac) n (ls.map Value.string) ∧ Fr no w w' ∧ ∀ g, Value.ownBlock (.slice ao n ac) = some g → w.heap.size ≤ g := by
  subst hn
  exact law_lines ls most w (fun w => by kernel_rfl) (enters_of Try.func31 (by kernel_rfl) rfl) (dIter c ls.length v ls) (fun W hf => ⟨hf.cell hc (fun f => f), h.row.rd.fr hf (fun _ _ _ f => f)⟩) hlen hm

set_option maxRecDepth 100000 in
set_option maxHeartbeats 8000000 in
theorem known_any (w : World) : Calls Try.prog 8 #[] w fun e w' => e = .returned (.bool true) ∧ Fr no w w' := by
  go_enter Try.func8, Try.ntmps8
  go_wp2_with fail
  refine (dNewS 20 w w (Fr.refl _ _) (by decide) (by decide)).mono ?_
  rintro e w1 ⟨p, v1, rfl, hN⟩
  have N1 := Lib.hid hN
  clear hN
  go_wp2_with fail
  refine (dNew_bad 0 w1 (by decide)).mono ?_
  rintro e w' ⟨rfl, rfl⟩
  go_wp2_with fail
  refine (dWriteS kA (by decide) N1.out.st).mono ?_
  rw [kfacts.1, kL1]
  rintro e w2 ⟨rfl, v2, hS⟩
  have N2 := Lib.hid (N1.out.step hS)
  clear hS N1
  go_wp2_with fail
  refine (dSyncS N2.out.st).mono ?_
  rintro e w3 ⟨x3, rfl, hS⟩
  have N3 : Hid (DkO w w3 p v2 20 [kA] 1) := Lib.hid (N2.out.step hS)
  clear hS N2
  go_wp2_with fail
  refine (dWriteS kD (by decide) N3.out.st).mono ?_
  rw [kfacts.2.1, kL2]
  rintro e w4 ⟨rfl, v4, hS⟩
  have N4 := Lib.hid (N3.out.step hS)
  clear hS N3
  go_wp2_with fail
  refine (dWriteS kX (by decide) N4.out.st).mono ?_
  rw [kfacts.2.2.1, kL3]
  rintro e w5 ⟨rfl, v5, hS⟩
  have N5 := Lib.hid (N4.out.step hS)
  clear hS N4
  go_wp2_with fail
  refine (dWriteS kN (by decide) N5.out.st).mono ?_
  rw [kfacts.2.2.2.1, kL4]
  rintro e w6 ⟨rfl, v6, hS⟩
  have N6 := Lib.hid (N5.out.step hS)
  clear hS N5
  go_wp2_with fail
  refine (dTwin N6.out.st).mono ?_
  rintro e w7 ⟨q, u, rfl, hS, hf, ho⟩
  have N7 : Hid (DkD w w7 p v6 20 [kA, kD, kX] 1 q u 20 [kA, kD, kX] 1) := Lib.hid (N6.out.two hS hf ho)
  clear hS hf ho N6
  go_wp2_with fail
  refine (dWaits N7.out.one.st).mono ?_
  rintro e w8 ⟨rfl, hf⟩
  have N8 := Lib.hid (N7.out.fr0 hf)
  clear hf N7
  go_wp2_with fail
  refine (dCrashS 6 (by decide) N8.out.one.st).mono ?_
  rw [kfacts.2.2.2.2.1]
  rintro e w9 ⟨x9, v9, rfl, hS⟩
  have N9 : Hid (DkD w w9 p v9 20 [kA, kD] 2 q u 20 [kA, kD, kX] 1) := Lib.hid (N8.out.step hS)
  clear hS N8
  go_wp2_with fail
  refine (dLinesW N9.out.one.st).mono ?_
  rintro e w10 ⟨c, rfl, hf, hc, _⟩
  have N10 := Lib.hid (N9.out.fr0 hf)
  have C10 := Lib.hid hc
  clear hf hc N9
  go_wp2_with fail
  refine (law_linesD N10.out.one.st C10.out 9 2 rfl (by decide) (by decide)).mono ?_
  rintro e w11 ⟨ao, ac, rfl, hrd, hf, _⟩
  have N11 := Lib.hid (N10.out.fr0 hf)
  obtain ⟨g, off, ac', he, _, _, hx⟩ := Rd.form hrd (by decide)
  cases he
  have R11 : w11.cell? ⟨g, off + 1, none⟩ = some (.string kD) := hx 1 _ rfl
  have hq : (kD.toList == kD.toList) = true := by simp
  clear hf hrd hx C10 N10
  go_wp2_with fail
  refine (dLen N11.out.one.st).mono ?_
  rintro e w' ⟨rfl, rfl⟩
  go_wp2_with fail
  refine (dWaits N11.out.one.st).mono ?_
  rintro e w12 ⟨rfl, hf⟩
  have N12 := Lib.hid (N11.out.fr0 hf)
  clear hf N11
  go_wp2_with fail
  refine (dUsedC N12.out.one.st).mono ?_
  rw [kfacts.2.2.2.2.2.1]
  rintro e w13 ⟨rfl, hf⟩
  have N13 := Lib.hid (N12.out.fr0 hf)
  clear hf N12
  go_wp2_with fail
  refine (dLen N13.out.two.st).mono ?_
  rintro e w' ⟨rfl, rfl⟩
  go_wp2_with fail
  refine (dWriteS kE (by decide) N13.out.one.st).mono ?_
  rw [kfacts.2.2.2.2.2.2, kL5]
  rintro e w14 ⟨rfl, v14, hS⟩
  have N14 := Lib.hid (N13.out.step hS)
  clear hS N13
  go_wp2_with fail
  refine (dCutS 1 N14.out.two.st).mono ?_
  rw [show dCutR [kA, kD, kX] 1 1 = 12 from rfl]
  rintro e w15 ⟨rfl, v15, hS⟩
  have N15 := Lib.hid (N14.out.step2 hS)
  clear hS N14
  go_wp2_with fail
  refine (dCutS 1 N15.out.one.st).mono ?_
  rw [show dCutR [kA, kD] 2 1 = 0 from rfl]
  rintro e w16 ⟨rfl, v16, hS⟩
  have N16 : Hid (DkD w w16 p v16 20 [kA] 1 q v15 20 [kA, kD, kX] 1) := Lib.hid (N15.out.step hS)
  clear hS N15
  go_wp2_with fail
  refine (dLen N16.out.one.st).mono ?_
  rintro e w' ⟨rfl, rfl⟩
  have F16 := Lib.hid N16.out.one.fr
  clear N16
  go_wp2
  go_ret
  exact ⟨rfl, F16.out⟩
end Go.Proofs.Ythlcbhpdbcnmjaa
