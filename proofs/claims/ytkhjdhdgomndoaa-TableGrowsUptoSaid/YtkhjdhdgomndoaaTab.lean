/- Contracts of the package aware: tables. -/
import Derived.Test.YtkhjdhdgomndoaaVec2
import Derived.Test.YtkhjdhdgomndoaaRefVec
namespace Go.XL
open Go.RowKit Go.Shelf
set_option linter.unusedVariables false
set_option linter.unusedSimpArgs false
/-- each with its place -/
def enumF {α : Type} (l : List α) (k : Nat) : List (Nat × α) := match l with
  | [] => []
  | x :: r => (k, x) :: enumF r (k + 1)
theorem enumF_some {α : Type} {xs : List α} {k j : Nat} {x : α} (h : xs[k]? = some x) : enumF (xs.drop k) j = (j, x) :: enumF (xs.drop (k + 1)) (j + 1) := by
  obtain ⟨hk, hx⟩ := List.getElem?_eq_some_iff.1 h
  rw [List.drop_eq_getElem_cons hk, hx]; simp [enumF]
/-- v is a table whose rows are t; vs: its slices -/
structure TabAt (w : World) (v : Value) (vs : List Value) (t : List (List Int)) : Prop where
  rd : Rd w 1 v t.length vs
  row : ∀ (i : Nat) u xs, vs[i]? = some u → t[i]? = some xs → IntsAt w u xs
theorem TabAt.len {w : World} {v : Value} {vs : List Value} {t : List (List Int)} (h : TabAt w v vs t) : vs.length = t.length := by have := h.rd.1; omega
theorem TabAt.fr {w w' : World} {v : Value} {vs : List Value} {t : List (List Int)} (h : TabAt w v vs t) (hf : Fr no w w') : TabAt w' v vs t :=
  ⟨h.rd.fr hf (fun _ _ _ f => f), fun i u xs h1 h2 => (h.row i u xs h1 h2).fr hf (fun _ _ _ f => f)⟩
/-- a row of it -/
theorem TabAt.get {w : World} {v : Value} {vs : List Value} {t : List (List Int)} (h : TabAt w v vs t) {i : Nat} (hi : i < t.length) : ∃ u xs, vs[i]? = some u ∧ t[i]? = some xs ∧ IntsAt w u xs := by
  have hl := h.len
  exact ⟨vs[i], t[i], by simp [show i < vs.length by omega], by simp [hi], h.row i _ _ (by simp [show i < vs.length by omega]) (by simp [hi])⟩
theorem TabAt.ones {w : World} {v : Value} {vs : List Value} {t : List (List Int)} (h : TabAt w v vs t) : ∀ u ∈ vs, u.oneCell' = true := by
  intro u hu
  obtain ⟨i, hi⟩ := List.getElem?_of_mem hu
  have hil := (List.getElem?_eq_some_iff.1 hi).1
  obtain ⟨ao, cap, rfl, _⟩ := (h.row i u _ hi (List.getElem?_eq_getElem (by rw [← h.len]; exact hil))).cap
  rfl

/-- is v a table of these rows? -/
def Tab (w : World) (v : Value) (t : List (List Int)) : Prop := ∃ vs, TabAt w v vs t
theorem Tab.fr {w w' : World} {v : Value} {t : List (List Int)} (h : Tab w v t) (hf : Fr no w w') : Tab w' v t := h.elim fun vs h => ⟨vs, h.fr hf⟩
/-- a table apart from the blocks X -/
def TabX (X : Nat → Prop) (w : World) (v : Value) (t : List (List Int)) : Prop := ∃ vs, RdX X w 1 v t.length vs ∧ ∀ (i : Nat) u xs, vs[i]? = some u → t[i]? = some xs → RdX X w 1 u xs.length (xs.map (Value.int .i64))
theorem TabX.tab {X : Nat → Prop} {w : World} {v : Value} {t : List (List Int)} (h : TabX X w v t) : Tab w v t := h.elim fun vs h => ⟨vs, h.1.rd, fun i u xs h1 h2 => (h.2 i u xs h1 h2).rd⟩
theorem TabX.fr {X F : Nat → Prop} {w w' : World} {v : Value} {t : List (List Int)} (h : TabX X w v t) (hf : Fr F w w') (hF : ∀ g, g < w.heap.size → F g → X g) : TabX X w' v t :=
  h.elim fun vs h => ⟨vs, h.1.fr hf hF, fun i u xs h1 h2 => (h.2 i u xs h1 h2).fr hf hF⟩
theorem TabX.bk {X : Nat → Prop} {B : Nat} {w w' : World} {v : Value} {t : List (List Int)} (h : TabX X w v t) (hf : Bk B w w') : TabX X w' v t :=
  h.elim fun vs h => ⟨vs, h.1.bk hf, fun i u xs h1 h2 => (h.2 i u xs h1 h2).bk hf⟩
theorem TabX.mono {X Y : Nat → Prop} {w : World} {v : Value} {t : List (List Int)} (h : TabX X w v t) (hY : ∀ g, Y g → X g) : TabX Y w v t :=
  h.elim fun vs h => ⟨vs, ⟨h.1.1, fun h0 g hg e => h.1.2 h0 g hg (hY g e)⟩, fun i u xs h1 h2 => ⟨(h.2 i u xs h1 h2).1, fun h0 g hg e => (h.2 i u xs h1 h2).2 h0 g hg (hY g e)⟩⟩
theorem TabX.cap {X : Nat → Prop} {w : World} {ao : Option Addr} {n cap : Nat} {t : List (List Int)} (h : TabX X w (.slice ao n cap) t) : n ≤ cap ∧ cap ≤ 9223372036854775807 := by
  obtain ⟨vs, h, _⟩ := h
  obtain ⟨_, _, e, h1, h2⟩ := h.rd.cap
  cases e
  exact ⟨h1, h2⟩
theorem Tab.x {X : Nat → Prop} {w : World} {v : Value} {t : List (List Int)} (h : Tab w v t) (hX : ∀ g, X g → w.heap.size ≤ g) : TabX X w v t :=
  h.elim fun vs h => ⟨vs, h.rd.x (by decide) hX, fun i u xs h1 h2 => (h.row i u xs h1 h2).x (by decide) hX⟩
def Shorts (t : List (List Int)) : Prop := t.length ≤ 1000000 ∧ ∀ xs ∈ t, xs.length ≤ 1000000
/-- a row joined -/
def tjoined (t : List (List Int)) (k : Nat) (b : List Int) : List (List Int) := t.set k (vboth max (t[k]?.getD []) b)
theorem Rd.zero (w : World) (size : Nat) : Rd w size (.slice none 0 0) 0 [] := (Sl.nil w 0 size).rd

/-- what Note says of its arguments -/
def tnote (t : List (List Int)) (k : Int) (b : List Int) : Int := if k < 0 then 1 else if (t.length : Int) ≤ k then 1 else vcheck b t.length

/-- are two tables alike, row by row, up to k? -/
def tsame (s t : List (List Int)) : Bool := decide (s.length = t.length) && (List.range s.length).all fun i : Nat => vcov (s[i]?.getD []) (t[i]?.getD []) && vcov (t[i]?.getD []) (s[i]?.getD [])
def tsameTo (s t : List (List Int)) (k : Nat) : Prop := ∀ i : Nat, i < k → (vcov (s[i]?.getD []) (t[i]?.getD []) && vcov (t[i]?.getD []) (s[i]?.getD [])) = true
theorem tsame_iff (s t : List (List Int)) (h : s.length = t.length) : tsame s t = true ↔ tsameTo s t s.length := by
  unfold tsame tsameTo
  rw [decide_eq_true h, Bool.true_and, List.all_eq_true]
  constructor
  · intro h i hi; exact h i (by simpa using hi)
  · intro h i hi; exact h i (by simpa using hi)

end Go.XL
namespace Go.Proofs.Ytkhjdhdgomndoaa
open Go.RowKit Go.Shelf Go.XL
set_option linter.unusedVariables false
set_option linter.unusedSimpArgs false
attribute [local go_sem] Oper.semAt_some
theorem Try.info34 : (Try.prog.info? 34).map (fun i => (i.zero, i.size, i.bytes)) = some (some (.slice none 0 0), 1, 24) := by kernel_rfl

theorem oneCell_slice (ao : Option Addr) (n cap : Nat) : (Value.slice ao n cap).oneCell' = true := rfl
set_option maxHeartbeats 400000 in
theorem tab_clone (v : Value) (vs : List Value) (n : Nat) (w : World) (h : Rd w 1 v n vs) (hs : ∀ u ∈ vs, u.oneCell' = true) (hn : n * 24 ≤ 140737488355328) :
    Calls Try.prog 33 #[v] w fun e w' => ∃ ao' cap', e = .returned (.slice ao' n cap') ∧ Ow w w' 34 1 (.slice ao' n cap') n vs := by
  obtain ⟨ao, cap, rfl, hcap, hm⟩ := h.cap
  have h1 := @Lib.run_eql_slice_nil Try.prog
  cases ao with
  | none =>
    have h0 : n = 0 := by
      obtain ⟨_, ao, cap', he, _, _, hz, _⟩ := h
      cases he
      have := hz rfl
      omega
    subst h0
    obtain rfl : vs = [] := List.eq_nil_of_length_eq_zero (by have := h.1; omega)
    go_enter Try.func33, Try.ntmps33
    go_wp2
    go_ret
    exact ⟨none, 0, rfl, Ow.nil (Fr.refl _ _) _ _⟩
  | some a =>
    obtain ⟨i0, hi, hz0, hz1, hz2⟩ := info_parts Try.info34
    have H := Lib.hid h
    have Hs := Lib.hid hs
    clear h hs
    have hf : Fr no w (w.alloc (.cells #[] 34)) := (Fr.refl _ w).alloc _
    have hs0 : Sl (w.alloc (.cells #[] 34)) 34 1 (.slice (some ⟨w.heap.size, 0, none⟩) 0 0) 0 [] := ⟨by simp, _, 0, rfl, Nat.le_refl _, by simp [maxLen], ⟨by simp, fun a h => by cases h; simp⟩, fun h => absurd h (Nat.lt_irrefl _)⟩
    have Hs0 := Lib.hid hs0
    clear hs0
    go_enter Try.func33, Try.ntmps33
    go_wp2_with (at_builtin; refine wpList_append_all (w.alloc (.cells #[] 34)) rfl _ _ 25 rfl 34 i0 (.slice none 0 0) 1 24 Try.underlying25 hi hz0 hz1 hz2 rfl (by decide) _ _ _ rfl Hs0.out _ _ _ rfl (H.out.fr hf (fun _ _ _ f => f)) Hs.out (by unfold maxLen; omega) (by omega) ?_)
    intro ao' cap' w' hs' hfr hor hkb
    have Hs' := Lib.hid hs'
    have Hor := Lib.hid hor
    clear hs' hor h1
    go_wp2
    go_ret
    refine ⟨ao', cap', rfl, by simpa using Hs'.out, hf.trans hfr (fun k hk e => ?_), fun g hg => ?_⟩
    · simp [Value.ownBlock] at e; omega
    · rcases Hor.out with e | e
      · rw [e] at hg; simp [Value.ownBlock] at hg; omega
      · have := e g hg; omega

theorem rows_any (ao : Option Addr) (n cap : Nat) (w : World) : Calls Try.prog 22 #[.slice ao n cap] w fun e w' => e = .returned (.func (.func 31) #[] #[.pointer (some ⟨w.heap.size, 0, none⟩)]) ∧ w.alloc (.cells #[.slice ao n cap] 25) = w' := by
  go_enter Try.func22, Try.ntmps22
  go_wp2
  go_ret
  exact ⟨rfl, rfl⟩

theorem rows_iter (c n : Nat) (v : Value) (vs : List Value) :
    EachC Fence.wide 2 Try.prog 31 #[.pointer (some ⟨c, 0, none⟩)] (fun x : Nat × Value => #[.int .i64 x.1, x.2]) (fun W => W.cell? ⟨c, 0, none⟩ = some v ∧ Rd W 1 v n vs) (enumF vs 0) := by
  intro l J Jx W hJ hPre hY
  obtain ⟨hc, hI⟩ := hPre _ W hJ
  have hN := hI.1
  rw [Nat.mul_one] at hN
  obtain ⟨ao, cap, rfl, hcap, hmx⟩ := hI.cap
  clear hI
  have HN := Lib.hid hN
  refine callsIn_of_wp Try.func31 rfl trivial ?_ rfl
  simp only [Try.ntmps31, List.size_toArray, List.length_cons, List.length_nil, Nat.reduceAdd, Nat.reduceSub, Array.replicate_succ, Array.replicate_zero, List.push_toArray, List.append_toArray, List.nil_append, List.cons_append]
  gi_wp2
  clear hc hN
  gi_loopw [7] (fun i wr => ∃ (k : Nat), k ≤ n ∧ i = .int .i64 k ∧ J (enumF (vs.drop k) k) wr) (fun i _ => n - (intOf i).toNat)
  case atStart => exact ⟨0, Nat.zero_le _, rfl, hJ⟩
  case round =>
    obtain ⟨k, hk, rfl, hJk⟩ := hrel
    by_cases hlt : k < n
    · obtain ⟨_, hI⟩ := hPre _ wr hJk
      have hxl : k < vs.length := by rw [HN.out]; exact hlt
      obtain ⟨g, off, c', he, _, _, hx⟩ := hI.form (by omega)
      cases he
      obtain ⟨x, hxk⟩ : ∃ x, vs[k]? = some x := ⟨vs[k], by simp [hxl]⟩
      have hcx : wr.cell? ⟨g, off + k, none⟩ = some x := hx k _ hxk
      obtain ⟨fn, tmps, assign, body, hy, hR⟩ := hY _ wr _ _ _ hJk ⟨enumF_some hxk, rfl⟩
      clear hx hxk hxl hI hJ hJk
      gi_wp2
      refine hR.mono ?_
      rintro e W3 (⟨rfl, hJ3⟩ | ⟨rfl, hJx3⟩)
      · gi_wp2
        go_roundw
        case rel => exact ⟨k + 1, by omega, by go_num, hJ3⟩
        case measure => simp [intOf]; omega
      · gi_wp2
        refine bodyPost_ret (results_none rfl _ _ _) rfl ?_
        exact ⟨⟨_, rfl⟩, .inr hJx3⟩
    · obtain rfl : k = n := by omega
      gi_wp2
      go_end0
      refine ⟨⟨_, rfl⟩, .inl ⟨_, _, hJk, ?_, rfl⟩⟩
      rw [List.drop_eq_nil_of_le (by rw [HN.out]; exact Nat.le_refl _)]; rfl

set_option maxHeartbeats 1000000 in
theorem tab_joined_x (v u : Value) (t : List (List Int)) (k : Nat) (b : List Int) (w : World) (h : Tab w v t) (hu : IntsAt w u b) (hk : k < t.length) (hs : Shorts t) (hb : b.length ≤ 1000000) :
    Calls Try.prog 25 #[v, .int .i64 k, u] w fun e w' => ∃ ao cap, e = .returned (.slice ao t.length cap) ∧ Tab w' (.slice ao t.length cap) (tjoined t k b) ∧ Fr no w w' ∧ ∀ X : Nat → Prop, (∀ g, X g → g < w.heap.size) → TabX X w v t → TabX X w' (.slice ao t.length cap) (tjoined t k b) := by
  obtain ⟨vs, h⟩ := h
  have hcl := tab_clone v vs t.length w h.rd h.ones (by have := hs.1; omega)
  obtain ⟨ao, cap, rfl, hcap, hmx⟩ := h.rd.cap
  obtain ⟨uo, ucap, rfl, hucap, humx⟩ := hu.cap
  obtain ⟨r, xs, hr, hx, hrow⟩ := h.get hk
  have hxl : xs.length ≤ 1000000 := hs.2 xs (List.mem_of_getElem? hx)
  obtain ⟨ro, rcap, rfl, hrcap, hrmx⟩ := hrow.cap
  have hl := h.len
  have htl := hs.1
  have H := Lib.hid h
  have Hu := Lib.hid hu
  have Hr := Lib.hid hr
  have Hx := Lib.hid hx
  have Hrow := Lib.hid hrow
  have Hs := Lib.hid hs
  have Hl := Lib.hid hl
  clear h hu hr hx hrow hs hl
  generalize hT : t.length = T at *
  have HT := Lib.hid hT
  clear hT
  go_enter Try.func25, Try.ntmps25
  go_wp2_with fail
  refine hcl.mono ?_
  rintro e w1 ⟨ao1, cap1, rfl, hO⟩
  have hcap1 : T ≤ cap1 ∧ cap1 ≤ 9223372036854775807 := by obtain ⟨_, _, e, h1, h2⟩ := hO.cap; cases e; exact ⟨h1, h2⟩
  obtain ⟨g, off, cc, he, _, _, hg0, hcx, hfz⟩ := hO.form (by omega)
  cases he
  have hck := hcx k _ Hr.out
  have hfk := hfz (off + k)
  have HO := Lib.hid hO
  clear hO hcx hfz hcl
  go_wp2_with fail
  refine (vec_join _ _ xs b w1 (Hrow.out.fr HO.out.fr (fun _ _ _ f => f)) (Hu.out.fr HO.out.fr (fun _ _ _ f => f)) hxl hb).mono ?_
  rintro e w2 ⟨v2, rfl, hM⟩
  obtain ⟨ao2, cap2, rfl, hcap2, hmx2⟩ := hM.cap
  have hck2 := hM.fr.cell hck (fun f => f)
  have hfk2 : w2.frozen? ⟨g, off + k, none⟩ = false := by
    obtain ⟨g', off', cc', he, _, _, _, _, hfz⟩ := (HO.out.step hM.fr).form (by omega)
    cases he
    exact hfz _
  have HM := Lib.hid hM
  clear hM hck hfk
  go_wp2
  go_ret
  have hO2 := (HO.out.step HM.out.fr).set k hk (.slice ao2 (vboth max xs b).length cap2)
  have e1 : (tjoined t k b).length = T := by rw [tjoined, List.length_set]; exact HT.out
  have hrd := hO2.rd
  have hl1 := Hl.out
  have hfr2 : Fr (fun i => i = g) w2 (w2.setCell ⟨g, off + k, none⟩ (.slice ao2 (vboth max xs b).length cap2)) := (Fr.refl (fun i => i = g) w2).setCell (p := ⟨g, off + k, none⟩) (fun _ => rfl) _
  have hvl : (vs.set k (.slice ao2 (vboth max xs b).length cap2)).length = T := by rw [List.length_set]; exact hl1
  have key : ∀ (P : Value → List Int → Prop), (∀ (i : Nat) (u : Value) (ys : List Int), vs[i]? = some u → t[i]? = some ys → P u ys) → P (.slice ao2 (vboth max xs b).length cap2) (vboth max xs b) →
      ∀ (i : Nat) (u : Value) (ys : List Int), (vs.set k (.slice ao2 (vboth max xs b).length cap2))[i]? = some u → (tjoined t k b)[i]? = some ys → P u ys := by
    intro P hP hn i u ys h1 h2
    rw [List.getElem?_set] at h1
    rw [tjoined, List.getElem?_set] at h2
    split at h1
    · rename_i e; subst e
      rw [if_pos (by omega)] at h1
      rw [if_pos rfl, if_pos (by rw [HT.out]; exact hk), Hx.out] at h2
      cases h1
      simp only [Option.getD_some, Option.some.injEq] at h2
      subst h2
      exact hn
    · rename_i ne
      rw [if_neg ne] at h2
      exact hP i u ys h1 h2
  have hnew : ∀ X : Nat → Prop, (∀ g, X g → g < w.heap.size) → RdX X (w2.setCell ⟨g, off + k, none⟩ (.slice ao2 (vboth max xs b).length cap2)) 1 (.slice ao2 (vboth max xs b).length cap2) (vboth max xs b).length ((vboth max xs b).map (Value.int .i64)) := by
    intro X hX
    refine ⟨HM.out.rd.fr hfr2 (fun g' hg' hlt e => ?_), fun _ g' hg' e => ?_⟩
    · have := HM.out.fresh g' hg'
      have := HO.out.sl.lt g rfl
      omega
    · have := HM.out.fresh g' hg'
      have := hX g' e
      have := HO.out.fr.size
      omega
  refine ⟨some ⟨g, off, none⟩, cap1, rfl, ⟨vs.set k (.slice ao2 (vboth max xs b).length cap2), by rw [e1]; exact hrd, key _ (fun i u ys h1 h2 => (H.out.row i u ys h1 h2).fr hO2.fr (fun _ _ _ f => f)) (hnew no (fun _ f => f.elim)).rd⟩, hO2.fr, fun X hX hTX => ?_⟩
  obtain ⟨us, hus, hrows⟩ := hTX
  refine ⟨vs.set k (.slice ao2 (vboth max xs b).length cap2), by rw [e1]; exact hO2.rdx hX, key _ (fun i u ys h1 h2 => ?_) (hnew X hX)⟩
  have huv : us = vs := Rd.cells_eq hus.rd H.out.rd
  subst huv
  exact (hrows i u ys h1 h2).fr hO2.fr (fun _ _ f => f.elim)

theorem tab_joined (v u : Value) (t : List (List Int)) (k : Nat) (b : List Int) (w : World) (h : Tab w v t) (hu : IntsAt w u b) (hk : k < t.length) (hs : Shorts t) (hb : b.length ≤ 1000000) :
    Calls Try.prog 25 #[v, .int .i64 k, u] w fun e w' => ∃ ao cap, e = .returned (.slice ao t.length cap) ∧ Tab w' (.slice ao t.length cap) (tjoined t k b) ∧ Fr no w w' := by
  refine (tab_joined_x v u t k b w h hu hk hs hb).mono ?_
  rintro e w' ⟨ao, cap, he, h1, h2, _⟩
  exact ⟨ao, cap, he, h1, h2⟩

theorem tab_new_bad (n : Int) (w : World) (h : n < 1 ∨ 8 < n) : Calls Try.prog 17 #[.int .i64 n] w fun e w' => e = .returned (.tuple #[.slice none 0 0, .int .i64 1]) ∧ w = w' := by
  go_enter Try.func17, Try.ntmps17
  by_cases h1 : n < 1
  · go_wp2
    go_ret2
    exact ⟨rfl, rfl⟩
  · have h2 : 8 < n := by omega
    go_wp2
    go_ret2
    exact ⟨rfl, rfl⟩

theorem tab_new_x (n : Nat) (w : World) (h : 1 ≤ n) (h8 : n ≤ 8) : Calls Try.prog 17 #[.int .i64 n] w fun e w' => ∃ ao cap, e = .returned (.tuple #[.slice ao n cap, .int .i64 0]) ∧ Tab w' (.slice ao n cap) (List.replicate n []) ∧ Fr no w w' ∧ ∀ X : Nat → Prop, (∀ g, X g → g < w.heap.size) → TabX X w' (.slice ao n cap) (List.replicate n []) := by
  obtain ⟨i0, hi, hz0, hz1, hz2⟩ := info_parts Try.info34
  obtain ⟨w1, hr, ho, hg⟩ := run_makeSlice_full (P := Try.prog) w w.heap.size 25 34 i0 _ 1 Try.underlying25 hi hz0 hz1 .i64 .i64 n (by omega) (by rw [hz2]; omega) (by unfold maxLen; omega) (Nat.le_refl _)
  have hs := Sl.of_ownsRow ho
  rw [show (Value.slice none 0 0).cells = #[Value.slice none 0 0] from rfl, Nat.mul_one, toList_madeCells_one] at hs
  have Hs := Lib.hid hs
  have Hf := Lib.hid ((Fr.refl no w).grown hg (fun _ h => by cases h))
  clear hs hg ho hi hz0 hz1 hz2
  go_enter Try.func17, Try.ntmps17
  go_wp2
  go_ret2
  have hrows : ∀ X : Nat → Prop, ∀ (i : Nat) u (xs : List Int), (List.replicate n (Value.slice none 0 0))[i]? = some u → (List.replicate n ([] : List Int))[i]? = some xs → RdX X w1 1 u xs.length (xs.map (Value.int .i64)) := by
    intro X i u xs h1 h2
    rw [List.getElem?_replicate] at h1 h2
    split at h1
    · rename_i hlt
      rw [if_pos hlt] at h2
      cases h1; cases h2
      exact ⟨Rd.zero _ _, fun h => absurd h (Nat.lt_irrefl _)⟩
    · cases h1
  have hrd : Rd w1 1 (.slice (some ⟨w.heap.size, 0, none⟩) n n) (List.replicate n ([] : List Int)).length (List.replicate n (.slice none 0 0)) := by
    have := Hs.out.rd
    simpa using this
  refine ⟨_, _, rfl, ⟨List.replicate n (.slice none 0 0), hrd, fun i u xs h1 h2 => (hrows no i u xs h1 h2).rd⟩, Hf.out, fun X hX => ⟨List.replicate n (.slice none 0 0), ⟨hrd, fun _ g hg e => ?_⟩, hrows X⟩⟩
  simp [Value.ownBlock] at hg
  subst hg
  have := hX _ e
  omega

theorem tab_new (n : Nat) (w : World) (h : 1 ≤ n) (h8 : n ≤ 8) : Calls Try.prog 17 #[.int .i64 n] w fun e w' => ∃ ao cap, e = .returned (.tuple #[.slice ao n cap, .int .i64 0]) ∧ Tab w' (.slice ao n cap) (List.replicate n []) ∧ Fr no w w' := by
  refine (tab_new_x n w h h8).mono ?_
  rintro e w' ⟨ao, cap, he, h1, h2, _⟩
  exact ⟨ao, cap, he, h1, h2⟩

set_option maxHeartbeats 400000 in
theorem tab_note_bad (v u : Value) (t : List (List Int)) (k : Int) (b : List Int) (w : World) (h : Tab w v t) (hu : IntsAt w u b) (hne : tnote t k b ≠ 0) :
    Calls Try.prog 12 #[v, .int .i64 k, u] w fun e w' => e = .returned (.tuple #[.slice none 0 0, .int .i64 (tnote t k b)]) ∧ Fr no w w' := by
  obtain ⟨vs, h⟩ := h
  obtain ⟨ao, cap, rfl, hcap, hmx⟩ := h.rd.cap
  clear h
  by_cases h1 : k < 0
  · have e : tnote t k b = 1 := by unfold tnote; rw [if_pos h1]
    rw [e]
    go_enter Try.func12, Try.ntmps12
    go_wp2
    go_ret2
    exact ⟨rfl, Fr.refl _ _⟩
  · by_cases h2 : (t.length : Int) ≤ k
    · have e : tnote t k b = 1 := by unfold tnote; rw [if_neg h1, if_pos h2]
      rw [e]
      go_enter Try.func12, Try.ntmps12
      go_wp2
      go_ret2
      exact ⟨rfl, Fr.refl _ _⟩
    · have e : tnote t k b = vcheck b t.length := by unfold tnote; rw [if_neg h1, if_neg h2]
      rw [e] at hne ⊢
      have hc := vec_check u b t.length w hu
      clear hu e
      go_enter Try.func12, Try.ntmps12
      go_wp2_with fail
      refine hc.mono ?_
      rintro e w1 ⟨rfl, hf⟩
      have Hf := Lib.hid hf
      clear hf hc
      go_wp2
      go_ret2
      exact ⟨rfl, Hf.out⟩

set_option maxHeartbeats 400000 in
theorem tab_note_x (v u : Value) (t : List (List Int)) (k : Nat) (b : List Int) (w : World) (h : Tab w v t) (hu : IntsAt w u b) (hk : k < t.length) (hs : Shorts t) (hc : vcheck b t.length = 0) (hb : b.length ≤ 1000000) :
    Calls Try.prog 12 #[v, .int .i64 k, u] w fun e w' => ∃ ao cap, e = .returned (.tuple #[.slice ao t.length cap, .int .i64 0]) ∧ Tab w' (.slice ao t.length cap) (tjoined t k b) ∧ Fr no w w' ∧ ∀ X : Nat → Prop, (∀ g, X g → g < w.heap.size) → TabX X w v t → TabX X w' (.slice ao t.length cap) (tjoined t k b) := by
  obtain ⟨ao, cap, rfl, hcap, hmx⟩ := (h.elim fun vs h => h.rd.cap)
  have hv := vec_check u b t.length w hu
  rw [hc] at hv
  have H := Lib.hid h
  have Hu := Lib.hid hu
  have Hs := Lib.hid hs
  clear h hu hs hc
  generalize hT : t.length = T at *
  have HT := Lib.hid hT
  clear hT
  go_enter Try.func12, Try.ntmps12
  go_wp2_with fail
  refine hv.mono ?_
  rintro e w1 ⟨rfl, hf⟩
  have Hf := Lib.hid hf
  clear hf hv
  go_wp2_with fail
  refine (tab_joined_x _ _ t k b w1 (H.out.fr Hf.out) (Hu.out.fr Hf.out (fun _ _ _ f => f)) (by rw [HT.out]; exact hk) Hs.out hb).mono ?_
  rw [HT.out]
  rintro e w2 ⟨ao2, cap2, rfl, hT2, hf2, hX2⟩
  have HX2 := Lib.hid hX2
  clear hX2
  have HT2 := Lib.hid hT2
  have Hf2 := Lib.hid hf2
  clear hT2 hf2
  go_wp2
  go_ret2
  exact ⟨ao2, cap2, rfl, HT2.out, Hf.out.trans' Hf2.out, fun X hX hT => HX2.out X (fun g e => Nat.lt_of_lt_of_le (hX g e) Hf.out.size) (hT.fr Hf.out (fun _ _ f => f.elim))⟩

theorem tab_note (v u : Value) (t : List (List Int)) (k : Nat) (b : List Int) (w : World) (h : Tab w v t) (hu : IntsAt w u b) (hk : k < t.length) (hs : Shorts t) (hc : vcheck b t.length = 0) (hb : b.length ≤ 1000000) :
    Calls Try.prog 12 #[v, .int .i64 k, u] w fun e w' => ∃ ao cap, e = .returned (.tuple #[.slice ao t.length cap, .int .i64 0]) ∧ Tab w' (.slice ao t.length cap) (tjoined t k b) ∧ Fr no w w' := by
  refine (tab_note_x v u t k b w h hu hk hs hc hb).mono ?_
  rintro e w' ⟨ao, cap, he, h1, h2, _⟩
  exact ⟨ao, cap, he, h1, h2⟩

theorem tab_row_none (v : Value) (t : List (List Int)) (k : Int) (w : World) (h : Tab w v t) (hk : k < 0 ∨ (t.length : Int) ≤ k) :
    Calls Try.prog 20 #[v, .int .i64 k] w fun e w' => e = .returned (.slice none 0 0) ∧ w = w' := by
  obtain ⟨ao, cap, rfl, hcap, hmx⟩ := (h.elim fun vs h => h.rd.cap)
  clear h
  by_cases h1 : k < 0
  · go_enter Try.func20, Try.ntmps20
    go_wp2
    go_ret
    exact ⟨rfl, rfl⟩
  · have h2 : (t.length : Int) ≤ k := by omega
    go_enter Try.func20, Try.ntmps20
    go_wp2
    go_ret
    exact ⟨rfl, rfl⟩
theorem tab_row (v : Value) (t : List (List Int)) (k : Nat) (xs : List Int) (w : World) (h : Tab w v t) (hx : t[k]? = some xs) (hn : xs.length ≤ 1000000) :
    Calls Try.prog 20 #[v, .int .i64 k] w fun e w' => ∃ ao cap, e = .returned (.slice ao xs.length cap) ∧ Made 3 w w' (.slice ao xs.length cap) xs := by
  obtain ⟨vs, h⟩ := h
  obtain ⟨hk, hx'⟩ := List.getElem?_eq_some_iff.1 hx
  obtain ⟨r, ys, hr, hy, hrow⟩ := h.get hk
  rw [hx] at hy
  cases hy
  obtain ⟨g, off, cap, rfl, hcap, hmx, hc⟩ := h.rd.form (by omega)
  obtain ⟨ro, rcap, rfl, hrcap, hrmx⟩ := hrow.cap
  have hck := hc k _ hr
  have hcl := vec_clone _ xs w hrow (by omega)
  clear h hx hx' hr hrow hc
  go_enter Try.func20, Try.ntmps20
  go_wp2_with fail
  refine hcl.mono ?_
  rintro e w1 ⟨ao, cap', rfl, hM⟩
  have HM := Lib.hid hM
  clear hM hcl
  go_wp2
  go_ret
  exact ⟨_, _, rfl, HM.out⟩

set_option maxHeartbeats 1000000 in
theorem tab_same (v u : Value) (s t : List (List Int)) (w : World) (h : Tab w v s) (hu : Tab w u t) :
    Calls Try.prog 13 #[v, u] w fun e w' => e = .returned (.bool (tsame s t)) ∧ w = w' := by
  have heq : Calls Try.prog 26 #[v, u, .func (.func 27) #[] #[]] w fun e w' => e = .returned (.bool (tsame s t)) ∧ w = w' := by
    obtain ⟨vs, h⟩ := h
    obtain ⟨us, hu⟩ := hu
    obtain ⟨ao, cap, rfl, hcap, hmx⟩ := h.rd.cap
    obtain ⟨uo, ucap, rfl, hucap, humx⟩ := hu.rd.cap
    by_cases hne : s.length = t.length
    · have hts := tsame_iff s t hne
      have H := Lib.hid h
      have Hu := Lib.hid hu
      have Hts := Lib.hid hts
      clear h hu hts
      generalize hS : s.length = S at *
      generalize hT : t.length = T at *
      subst hne
      have HS := Lib.hid hS
      have HT := Lib.hid hT
      clear hS hT
      have hcf : ∀ (args : Array Value) (w : World), (callFunc 27 args).run Try.prog w = .ok (.enter 27 args) w := fun _ _ => by kernel_rfl
      go_enter Try.func26, Try.ntmps26
      go_wp2_with fail
      go_loop [17] (fun jv => ∃ (j : Nat), j ≤ S ∧ jv = .int .i64 j ∧ Hid (tsameTo s t j)) (fun jv => S - (intOf jv).toNat)
      case atStart => exact ⟨0, Nat.zero_le _, rfl, Lib.hid (fun j h => by omega)⟩
      case round =>
        obtain ⟨j, hj, rfl, hC⟩ := hrel
        by_cases hlt : j < S
        · obtain ⟨r1, x1, a1, a2, a3⟩ := H.out.get (i := j) (by rw [HS.out]; exact hlt)
          obtain ⟨r2, x2, b1, b2, b3⟩ := Hu.out.get (i := j) (by rw [HT.out]; exact hlt)
          have hf1 := H.out.rd.form (by rw [HS.out]; omega)
          have hf2 := Hu.out.rd.form (by rw [HT.out]; omega)
          rw [HS.out] at hf1
          rw [HT.out] at hf2
          obtain ⟨g, off, c', he, _, _, hx⟩ := hf1
          obtain ⟨g2, off2, c2', he2, _, _, hx2⟩ := hf2
          cases he
          cases he2
          have hc1 := hx j _ a1
          have hc2 := hx2 j _ b1
          have hsm := vec_same r1 r2 x1 x2 w a3 b3
          have A2 := Lib.hid a2
          have B2 := Lib.hid b2
          clear hx hx2 a1 a2 a3 b1 b2 b3
          go_wp2_with fail
          refine hsm.mono ?_
          rintro e w' ⟨rfl, rfl⟩
          clear hsm
          cases hcc : (vcov x1 x2 && vcov x2 x1)
          · go_wp2
            go_ret
            have e1 : tsame s t = false := by
              rw [← Bool.not_eq_true, Hts.out]; intro h; have := h j hlt; rw [A2.out, B2.out] at this; simp [hcc] at this
            rw [e1]
            exact ⟨rfl, rfl⟩
          · go_wp2
            go_round
            case rel => exact ⟨j + 1, by omega, by go_num, Lib.hid (fun i ht => by rcases Nat.lt_succ_iff_lt_or_eq.1 ht with h | rfl <;> first | exact hC.out i h | (rw [A2.out, B2.out]; simpa using hcc))⟩
            case measure => simp [intOf]; omega
        · obtain rfl : j = S := by omega
          go_wp2
          go_ret
          have e1 : tsame s t = true := Hts.out.2 hC.out
          rw [e1]
          exact ⟨rfl, rfl⟩
    · have e1 : tsame s t = false := by unfold tsame; rw [decide_eq_false hne]; rfl
      rw [e1]
      clear h hu e1
      have hne' : ¬ (s.length : Int) = t.length := by omega
      go_enter Try.func26, Try.ntmps26
      go_wp2
      go_ret
      exact ⟨rfl, rfl⟩
  clear h hu
  go_enter Try.func13, Try.ntmps13
  go_wp2_with fail
  refine heq.mono ?_
  rintro e w' ⟨rfl, rfl⟩
  go_wp2
  go_ret
  exact ⟨rfl, rfl⟩
end Go.Proofs.Ytkhjdhdgomndoaa
