/- Contracts of the package aware: Check, Merge, All. -/
import Derived.Test.YtkhjdhdgomndoaaTab
namespace Go.XL
open Go.RowKit Go.Shelf
set_option linter.unusedVariables false
set_option linter.unusedSimpArgs false
theorem enumF_cons {α : Type} {vs : List α} {k j : Nat} {x : Nat × α} {s : List (Nat × α)} (h : enumF (vs.drop k) j = x :: s) : ∃ u, vs[k]? = some u ∧ x = (j, u) ∧ s = enumF (vs.drop (k + 1)) (j + 1) := by
  by_cases hk : k < vs.length
  · rw [enumF_some (x := vs[k]) (by simp [hk])] at h
    cases h
    exact ⟨vs[k], by simp [hk], rfl, rfl⟩
  · rw [List.drop_eq_nil_of_le (by omega)] at h; cases h
theorem enumF_nil {α : Type} {vs : List α} {k j : Nat} (h : enumF (vs.drop k) j = []) : vs.length ≤ k := by
  by_cases hk : k < vs.length
  · rw [enumF_some (x := vs[k]) (by simp [hk])] at h; cases h
  · omega
/-- what Check says of the rows -/
def tbad (t : List (List Int)) (sites : Int) : Int := match t with
  | [] => 0
  | x :: r => if vcheck x sites = 0 then tbad r sites else vcheck x sites
theorem tbad_drop {t : List (List Int)} {k : Nat} {x : List Int} (h : t[k]? = some x) (sites : Int) : tbad (t.drop k) sites = if vcheck x sites = 0 then tbad (t.drop (k + 1)) sites else vcheck x sites := by
  obtain ⟨hk, hx⟩ := List.getElem?_eq_some_iff.1 h
  rw [List.drop_eq_getElem_cons hk, hx]; simp only [tbad]
def tcheck (t : List (List Int)) (sites : Int) : Int := if sites < 1 then 1 else if 8 < sites then 1 else if (t.length : Int) = sites then tbad t sites else 1
/-- the rows of the one joined with those of the other, from k on -/
def tmerge (a : List (List Int)) (k : Nat) (b : List (List Int)) : List (List Int) := match b with
  | [] => a
  | x :: r => tmerge (tjoined a k x) (k + 1) r
theorem tmerge_drop {a t : List (List Int)} {k : Nat} {x : List Int} (h : t[k]? = some x) : tmerge a k (t.drop k) = tmerge (tjoined a k x) (k + 1) (t.drop (k + 1)) := by
  obtain ⟨hk, hx⟩ := List.getElem?_eq_some_iff.1 h
  rw [List.drop_eq_getElem_cons hk, hx]; simp only [tmerge]
/-- what all rows have, from k on, cur so far -/
def tall (cur : List Int) (k : Nat) (t : List (List Int)) : List Int := match t with
  | [] => cur
  | x :: r => tall (vboth min (if k = 0 then x else cur) x) (k + 1) r
theorem tall_drop {cur : List Int} {t : List (List Int)} {k : Nat} {x : List Int} (h : t[k]? = some x) : tall cur k (t.drop k) = tall (vboth min (if k = 0 then x else cur) x) (k + 1) (t.drop (k + 1)) := by
  obtain ⟨hk, hx⟩ := List.getElem?_eq_some_iff.1 h
  rw [List.drop_eq_getElem_cons hk, hx]; simp only [tall]
theorem vboth_len (g : Int → Int → Int) (a b : List Int) : (vboth g a b).length = max a.length b.length := by simp [vboth]
theorem Shorts.joined {t : List (List Int)} (h : Shorts t) (k : Nat) {b : List Int} (hb : b.length ≤ 1000000) : Shorts (tjoined t k b) := by
  refine ⟨by rw [tjoined, List.length_set]; exact h.1, fun xs hx => ?_⟩
  rcases List.mem_or_eq_of_mem_set hx with hx | rfl
  · exact h.2 xs hx
  · rw [vboth_len]
    have : (t[k]?.getD []).length ≤ 1000000 := by
      cases e : t[k]? with
      | none => simp
      | some x => simpa using h.2 x (List.mem_of_getElem? e)
    omega
end Go.XL
namespace Go.Proofs.Ytkhjdhdgomndoaa
open Go.RowKit Go.Shelf Go.XL
set_option linter.unusedVariables false
set_option linter.unusedSimpArgs false
attribute [local go_sem] Oper.semAt_some

theorem tcheck_res (tmps : Array Value) (c1 : Nat) (w : World) (v1 : Value) (h1 : tmps[4]? = some (.pointer (some ⟨c1, 0, none⟩)))
    (g1 : w.cell? ⟨c1, 0, none⟩ = some v1) : (results Try.f10 tmps).run Try.prog w = .ok v1 w := by
  simp [results, Try.results10, go_sem, h1, g1]

/-- what holds between two rounds of Check -/
def TcI (w : World) (v : Value) (vs : List Value) (t : List (List Int)) (sites r : Int) (s : List (Nat × Value)) (W : World) : Prop :=
  ∃ k, s = enumF (vs.drop k) k ∧ tbad (t.drop k) sites = r ∧ W.heap[w.heap.size]? = some (.cells #[.int .i64 sites] 3 (0, 0)) ∧ W.heap[w.heap.size + 1]? = some (.cells #[.int .i64 0] 28 (0, 0)) ∧ W.heap[w.heap.size + 2]? = some (.cells #[v] 25 (0, 0)) ∧ Fr no w W
def TcX (w : World) (r : Int) (c : Code) (W : World) : Prop :=
  c = .ret ∧ W.heap[w.heap.size + 1]? = some (.cells #[.int .i64 r] 28 (0, 0)) ∧ Fr no w W

set_option maxRecDepth 10000 in
set_option maxHeartbeats 1000000 in
theorem tab_check (v : Value) (t : List (List Int)) (sites : Int) (w : World) (h : Tab w v t) :
    Calls Try.prog 10 #[v, .int .i64 sites] w fun e w' => e = .returned (.int .i64 (tcheck t sites)) ∧ Fr no w w' := by
  obtain ⟨vs, h⟩ := h
  obtain ⟨ao, cap, rfl, hcap, hmx⟩ := h.rd.cap
  have H := Lib.hid h
  clear h
  have hb0 : Fr no w ((w.alloc (.cells #[.int .i64 sites] 3)).alloc (.cells #[.int .i64 1] 28)) := ((Fr.refl no w).alloc _).alloc _
  have hb1 : ((w.alloc (.cells #[.int .i64 sites] 3)).alloc (.cells #[.int .i64 1] 28)).heap[w.heap.size + 1]? = some (.cells #[.int .i64 1] 28 (0, 0)) := by simp only [alloc_get, World.size_alloc, Nat.add_assoc]; simp
  have Hb0 := Lib.hid hb0
  have Hb1 := Lib.hid hb1
  clear hb0 hb1
  have hc0 : ∀ o, ((w.alloc (.cells #[.int .i64 sites] 3)).alloc o).cell? ⟨w.heap.size, 0, none⟩ = some (.int .i64 sites) := fun o => cell_of_block (E := 3) (fz := (0, 0)) (cs := #[.int .i64 sites]) (by simp only [alloc_get, World.size_alloc, Nat.add_assoc]; simp) rfl
  refine calls_of_in (n := 4) free_wide (callsIn_of_wp_marks Try.func10 rfl trivial (wpIn_wide.2 ?_) rfl)
  simp only [Try.ntmps10, List.size_toArray, List.length_cons, List.length_nil, Nat.reduceAdd, Nat.reduceSub, Array.replicate_succ, Array.replicate_zero, List.push_toArray, List.append_toArray, List.nil_append, List.cons_append]
  by_cases h1 : sites < 1
  · have e1 : tcheck t sites = 1 := by unfold tcheck; rw [if_pos h1]
    rw [e1]
    go_wp2
    exact leave0 rfl (tcheck_res _ (w.heap.size + 1) _ (.int .i64 1) rfl (cell_of_block Hb1.out rfl)) ⟨rfl, Hb0.out⟩
  · by_cases h2 : 8 < sites
    · have e1 : tcheck t sites = 1 := by unfold tcheck; rw [if_neg h1, if_pos h2]
      rw [e1]
      go_wp2
      exact leave0 rfl (tcheck_res _ (w.heap.size + 1) _ (.int .i64 1) rfl (cell_of_block Hb1.out rfl)) ⟨rfl, Hb0.out⟩
    · by_cases h3 : (t.length : Int) = sites
      · have e1 : tcheck t sites = tbad t sites := by unfold tcheck; rw [if_neg h1, if_neg h2, if_pos h3]
        rw [e1]
        clear e1 Hb0 Hb1
        subst h3
        have hal := rows_any ao t.length cap ((w.alloc (.cells #[.int .i64 (t.length : Nat)] 3)).alloc (.cells #[.int .i64 0] 28))
        generalize hn : t.length = n at *
        have Hn := Lib.hid hn
        clear hn
        go_wp2_with fail
        refine hal.mono ?_
        rintro e w2 ⟨rfl, hw2⟩
        have hsz : ((w.alloc (.cells #[.int .i64 n] 3)).alloc (.cells #[.int .i64 0] 28)).heap.size = w.heap.size + 2 := by simp
        rw [hsz]
        clear hal hsz
        have hI0 : TcI w (.slice ao n cap) vs t n (tbad t n) (enumF vs 0) w2 := by
          refine ⟨0, rfl, rfl, ?_, ?_, ?_, ?_⟩ <;> rw [← hw2]
          · simp only [alloc_get, World.size_alloc, Nat.add_assoc]; simp
          · simp only [alloc_get, World.size_alloc, Nat.add_assoc]; simp
          · simp only [alloc_get, World.size_alloc, Nat.add_assoc]; simp
          · exact (((Fr.refl no w).alloc _).alloc _).alloc _
        have hs2 : w.heap.size + 3 = w2.heap.size := by rw [← hw2]; simp
        have HI0 := Lib.hid hI0
        clear hw2 hI0 hc0
        have hIbk : ∀ s W W', TcI w (.slice ao n cap) vs t n (tbad t n) s W → Bk w2.heap.size W W' → TcI w (.slice ao n cap) vs t n (tbad t n) s W' := by
          rintro s W W' ⟨k, a1, a2, a3, a4, a5, a6⟩ hb
          exact ⟨k, a1, a2, hb.heap a3 rfl, hb.heap a4 rfl, hb.heap a5 rfl, hb.fr a6 (by omega)⟩
        go_wp2
        refine (wpIn_wide (n := 3)).1 ?_
        refine wpIn_each (ls := enumF vs 0) rfl (by intro h; cases h) (gf := 31) (lb := #[.pointer (some ⟨w.heap.size + 2, 0, none⟩)]) rfl trivial (enters_of Try.func31 (by kernel_rfl) rfl)
          (rows_iter (w.heap.size + 2) n (.slice ao n cap) vs) (fun _ => rfl) (TcI w (.slice ao n cap) vs t n (tbad t n)) (TcX w (tbad t n))
          hIbk ?hIx ?hPre HI0.out ?round ?done ?stop
        case hIx => exact fun s W W' h hb => ⟨h.1, hb.heap h.2.1 rfl, hb.fr h.2.2 (by omega)⟩
        case hPre => exact fun s W ⟨k, a1, a2, a3, a4, a5, a6⟩ => ⟨cell_of_block a5 rfl, by have := (H.out.fr a6).rd; rwa [Hn.out] at this⟩
        case round =>
          rintro l W x s h
          gi_wp2
          refine ⟨Kb.refl _, fun l W' hb hl => ?_⟩
          obtain ⟨k, g1, g2, g3, g4, g5, g6⟩ := hIbk _ _ _ h hb
          clear hb h hIbk
          obtain ⟨u, hu, rfl, rfl⟩ := enumF_cons g1.symm
          have hkl : k < t.length := by rw [← H.out.len]; exact (List.getElem?_eq_some_iff.1 hu).1
          obtain ⟨u', xs, hu', hx, hrow⟩ := H.out.get hkl
          rw [hu] at hu'
          cases hu'
          rw [tbad_drop hx] at g2
          have hvc := (free_round free_wide l).calls (n := 0) (vec_check u xs n W' (hrow.fr g6 (fun _ _ _ f => f)))
          have c3 : W'.cell? ⟨w.heap.size, 0, none⟩ = some (.int .i64 n) := cell_of_block g3 rfl
          have c4 : W'.cell? ⟨w.heap.size + 1, 0, none⟩ = some (.int .i64 0) := cell_of_block g4 rfl
          have f4 : W'.frozen? ⟨w.heap.size + 1, 0, none⟩ = false := frozen_of_block g4
          obtain ⟨uo, ucap, rfl, _, _⟩ := hrow.cap
          have G1 := Lib.hid g1
          have G2 := Lib.hid g2
          have G3 := Lib.hid g3
          have G4 := Lib.hid g4
          have G5 := Lib.hid g5
          have G6 := Lib.hid g6
          clear g1 g2 g3 g4 g5 g6 hu hx hrow
          gi_wp2
          refine ⟨trivial, hvc.mono ?_⟩
          rintro e w3 ⟨rfl, hf3⟩
          have b4 := hf3.heap G4.out (fun f => f)
          have c4' : w3.cell? ⟨w.heap.size + 1, 0, none⟩ = some (.int .i64 0) := cell_of_block b4 rfl
          have f4' : w3.frozen? ⟨w.heap.size + 1, 0, none⟩ = false := frozen_of_block b4
          have hkb : Kb W' w3 := hf3.kb (fun _ _ f => f.elim)
          have Hf3 := Lib.hid hf3
          have Hkb := Lib.hid hkb
          have B4 := Lib.hid b4
          clear hf3 hkb b4 hvc c3 c4 f4
          by_cases hz : vcheck xs n = 0
          · rw [hz]
            gi_wp2
            refine ⟨Hkb.out, k + 1, rfl, ?_, Hf3.out.heap G3.out (fun f => f), B4.out, Hf3.out.heap G5.out (fun f => f), G6.out.trans' Hf3.out⟩
            have := G2.out
            rwa [if_pos hz] at this
          · have e2 := G2.out
            rw [if_neg hz] at e2
            generalize vcheck xs n = y at *
            gi_wp2
            refine ⟨Hkb.out.trans (Kb.setCell _ _ _), rfl, ?_, (G6.out.trans' Hf3.out).setCell (p := ⟨w.heap.size + 1, 0, none⟩) (fun h => absurd (show w.heap.size + 1 < w.heap.size from h) (by omega)) _⟩
            rw [← e2]
            exact heap_setC _ B4.out
        case done =>
          rintro D W hD h hd
          obtain ⟨k, g1, g2, g3, g4, g5, g6⟩ := h
          have hkl := enumF_nil g1.symm
          have c4 : W.cell? ⟨w.heap.size + 1, 0, none⟩ = some (.int .i64 0) := cell_of_block g4 rfl
          have f4 : W.frozen? ⟨w.heap.size + 1, 0, none⟩ = false := frozen_of_block g4
          have e0 : tbad t n = 0 := by rw [← g2, List.drop_eq_nil_of_le (by rw [← H.out.len]; exact hkl)]; rfl
          have G4 := Lib.hid g4
          have G6 := Lib.hid g6
          have Hd := Lib.hid hd
          clear g1 g2 g3 g4 g5 g6 hd hIbk hkl
          have E0 := Lib.hid e0
          clear e0
          go_wp2
          refine leaveOne D rfl ((Below.heap_setCell _ _ _ _ (by simp; omega)).trans Hd.out) (fun Wf hbf => ?_)
          have s1 := hbf.heap (heap_setC (j := 0) (.int .i64 0) G4.out) rfl
          exact ⟨_, tcheck_res _ (w.heap.size + 1) _ _ rfl (cell_of_block s1 rfl), by rw [E0.out]; rfl, hbf.fr (G6.out.setCell (p := ⟨w.heap.size + 1, 0, none⟩) (fun h => absurd (show w.heap.size + 1 < w.heap.size from h) (by omega)) _) (by omega)⟩
        case stop =>
          rintro D c W hD ⟨rfl, g2, g4⟩ hd
          refine wpIn_ret ?_
          refine leaveOne D rfl hd (fun Wf hbf => ?_)
          exact ⟨_, tcheck_res _ (w.heap.size + 1) _ _ rfl (cell_of_block (hbf.heap g2 rfl) rfl), rfl, hbf.fr g4 (by omega)⟩
      · have e1 : tcheck t sites = 1 := by unfold tcheck; rw [if_neg h1, if_neg h2, if_neg h3]
        rw [e1]
        go_wp2
        exact leave0 rfl (tcheck_res _ (w.heap.size + 1) _ (.int .i64 1) rfl (cell_of_block Hb1.out rfl)) ⟨rfl, Hb0.out⟩

theorem merge_res (tmps : Array Value) (c1 c2 : Nat) (w : World) (v1 v2 : Value) (h1 : tmps[4]? = some (.pointer (some ⟨c1, 0, none⟩))) (h2 : tmps[5]? = some (.pointer (some ⟨c2, 0, none⟩)))
    (g1 : w.cell? ⟨c1, 0, none⟩ = some v1) (g2 : w.cell? ⟨c2, 0, none⟩ = some v2) : (results Try.f11 tmps).run Try.prog w = .ok (.tuple #[v1, v2]) w := by
  simp [results, Try.results11, go_sem, h1, h2, g1, g2]

/-- Merge's own blocks -/
def TmB (w : World) (g : Nat) : Prop := w.heap.size ≤ g ∧ g < w.heap.size + 5
/-- what holds between two rounds of Merge: slots' blocks w + 0 (b), + 1, + 2 (the results), + 3 (out), + 4 (Rows' b) -/
def TmI (w : World) (u v : Value) (vs : List Value) (a t : List (List Int)) (n : Nat) (r : List (List Int)) (e : Int) (s : List (Nat × Value)) (W : World) : Prop :=
  ∃ k, s = enumF (vs.drop k) k ∧ tbad (t.drop k) n = e ∧ W.heap[w.heap.size]? = some (.cells #[v] 25 (0, 0)) ∧ W.heap[w.heap.size + 1]? = some (.cells #[.slice none 0 0] 25 (0, 0)) ∧ W.heap[w.heap.size + 2]? = some (.cells #[.int .i64 0] 28 (0, 0)) ∧
    (∃ ao cap cur, W.heap[w.heap.size + 3]? = some (.cells #[.slice ao n cap] 25 (0, 0)) ∧ (∀ X : Nat → Prop, (∀ g, X g → g < w.heap.size) → TabX X w u a → TabX (fun g => TmB w g ∨ X g) W (.slice ao n cap) cur) ∧ tmerge cur k (t.drop k) = r ∧ cur.length = n ∧ Shorts cur) ∧
    W.heap[w.heap.size + 4]? = some (.cells #[v] 25 (0, 0)) ∧ Fr no w W
def TmX (w : World) (e : Int) (c : Code) (W : World) : Prop :=
  c = .ret ∧ e ≠ 0 ∧ W.heap[w.heap.size + 1]? = some (.cells #[.slice none 0 0] 25 (0, 0)) ∧ W.heap[w.heap.size + 2]? = some (.cells #[.int .i64 e] 28 (0, 0)) ∧ Fr no w W

theorem tab_merge_bad (u v : Value) (a t : List (List Int)) (w : World) (hu : Tab w u a) (h : Tab w v t) (hn : ¬ a.length = t.length ∨ a.length = 0) :
    Calls Try.prog 11 #[u, v] w fun e w' => e = .returned (.tuple #[.slice none 0 0, .int .i64 1]) ∧ Fr no w w' := by
  obtain ⟨uo, ucap, rfl, _, _⟩ := (hu.elim fun vs h => h.rd.cap)
  obtain ⟨ao, cap, rfl, hcap, hmx⟩ := (h.elim fun vs h => h.rd.cap)
  clear h hu
  refine calls_of_in (n := 4) free_wide (callsIn_of_wp_marks Try.func11 rfl trivial (wpIn_wide.2 ?_) rfl)
  simp only [Try.ntmps11, List.size_toArray, List.length_cons, List.length_nil, Nat.reduceAdd, Nat.reduceSub, Array.replicate_succ, Array.replicate_zero, List.push_toArray, List.append_toArray, List.nil_append, List.cons_append]
  generalize a.length = n1 at *
  generalize t.length = n2 at *
  have hc0 : ∀ o o', (((w.alloc (.cells #[.slice ao n2 cap] 25)).alloc o).alloc o').cell? ⟨w.heap.size, 0, none⟩ = some (.slice ao n2 cap) := fun o o' => cell_of_block (E := 25) (fz := (0, 0)) (cs := #[.slice ao n2 cap]) (by simp only [alloc_get, World.size_alloc, Nat.add_assoc]; simp) rfl
  by_cases h1 : n1 = n2
  · obtain rfl : n1 = 0 := by omega
    subst h1
    go_wp2
    refine leave0 rfl (merge_res _ (w.heap.size + 1) (w.heap.size + 1 + 1) _ (.slice none 0 0) (.int .i64 1) rfl rfl ?_ ?_) ⟨rfl, ((((Fr.refl no w).alloc _).alloc _).alloc _)⟩
    · exact cell_of_block (E := 25) (fz := (0, 0)) (cs := #[.slice none 0 0]) (by simp only [alloc_get, World.size_alloc, Nat.add_assoc]; simp) rfl
    · exact cell_of_block (E := 28) (fz := (0, 0)) (cs := #[.int .i64 1]) (by simp only [alloc_get, World.size_alloc, Nat.add_assoc]; simp) rfl
  · have h1' : ¬ (n1 : Int) = n2 := by omega
    go_wp2
    refine leave0 rfl (merge_res _ (w.heap.size + 1) (w.heap.size + 1 + 1) _ (.slice none 0 0) (.int .i64 1) rfl rfl ?_ ?_) ⟨rfl, ((((Fr.refl no w).alloc _).alloc _).alloc _)⟩
    · exact cell_of_block (E := 25) (fz := (0, 0)) (cs := #[.slice none 0 0]) (by simp only [alloc_get, World.size_alloc, Nat.add_assoc]; simp) rfl
    · exact cell_of_block (E := 28) (fz := (0, 0)) (cs := #[.int .i64 1]) (by simp only [alloc_get, World.size_alloc, Nat.add_assoc]; simp) rfl

set_option maxRecDepth 10000 in
set_option maxHeartbeats 1000000 in
theorem tab_merge_x (u v : Value) (a t : List (List Int)) (w : World) (hu : Tab w u a) (h : Tab w v t) (hn : a.length = t.length) (h0 : 0 < a.length) (hs : Shorts a) (hst : Shorts t) :
    Calls Try.prog 11 #[u, v] w fun e w' => ∃ r, e = .returned (.tuple #[r, .int .i64 (tbad t t.length)]) ∧ Fr no w w' ∧ (tbad t t.length = 0 → Tab w' r (tmerge a 0 t) ∧ (∃ ao cap, r = .slice ao t.length cap) ∧ ∀ X : Nat → Prop, (∀ g, X g → g < w.heap.size) → TabX X w u a → TabX X w' r (tmerge a 0 t)) := by
  obtain ⟨vs, h⟩ := h
  obtain ⟨uo, ucap, rfl, hucap, humx⟩ := (hu.elim fun vs h => h.rd.cap)
  obtain ⟨ao, cap, rfl, hcap, hmx⟩ := h.rd.cap
  have H := Lib.hid h
  have Hu := Lib.hid hu
  have Hs := Lib.hid hs
  have Hst := Lib.hid hst
  clear h hu hs hst
  generalize ha : a.length = n1 at *
  generalize hb : t.length = n at *
  subst hn
  have Ha := Lib.hid ha
  have Hb := Lib.hid hb
  clear ha hb
  have hc0 : ∀ o o', (((w.alloc (.cells #[.slice ao n1 cap] 25)).alloc o).alloc o').cell? ⟨w.heap.size, 0, none⟩ = some (.slice ao n1 cap) := fun o o' => cell_of_block (E := 25) (fz := (0, 0)) (cs := #[.slice ao n1 cap]) (by simp only [alloc_get, World.size_alloc, Nat.add_assoc]; simp) rfl
  have hc1 : ∀ o o' o'', ((((w.alloc (.cells #[.slice ao n1 cap] 25)).alloc o).alloc o').alloc o'').cell? ⟨w.heap.size, 0, none⟩ = some (.slice ao n1 cap) := fun o o' o'' => cell_of_block (E := 25) (fz := (0, 0)) (cs := #[.slice ao n1 cap]) (by simp only [alloc_get, World.size_alloc, Nat.add_assoc]; simp) rfl
  refine calls_of_in (n := 4) free_wide (callsIn_of_wp_marks Try.func11 rfl trivial (wpIn_wide.2 ?_) rfl)
  simp only [Try.ntmps11, List.size_toArray, List.length_cons, List.length_nil, Nat.reduceAdd, Nat.reduceSub, Array.replicate_succ, Array.replicate_zero, List.push_toArray, List.append_toArray, List.nil_append, List.cons_append]
  have hal := rows_any ao n1 cap ((((w.alloc (.cells #[.slice ao n1 cap] 25)).alloc (.cells #[.slice none 0 0] 25)).alloc (.cells #[.int .i64 0] 28)).alloc (.cells #[.slice uo n1 ucap] 25))
  go_wp2_with fail
  refine hal.mono ?_
  rintro e w2 ⟨rfl, hw2⟩
  have hsz : ((((w.alloc (.cells #[.slice ao n1 cap] 25)).alloc (.cells #[.slice none 0 0] 25)).alloc (.cells #[.int .i64 0] 28)).alloc (.cells #[.slice uo n1 ucap] 25)).heap.size = w.heap.size + 4 := by simp
  rw [hsz]
  clear hal hsz
  have hf2 : Fr no w w2 := by rw [← hw2]; exact (((((Fr.refl no w).alloc _).alloc _).alloc _).alloc _).alloc _
  have hX0 : ∀ X : Nat → Prop, (∀ g, X g → g < w.heap.size) → TabX X w (.slice uo n1 ucap) a → TabX (fun g => TmB w g ∨ X g) w2 (.slice uo n1 ucap) a := by
    rintro X hX ⟨vs, h1, h2⟩
    have k0 : ∀ (v : Value) (n : Nat) (cs : List Value), RdX X w 1 v n cs → RdX (fun g => TmB w g ∨ X g) w2 1 v n cs := fun v n cs h => by
      have h3 := (h.rd.x (X := TmB w) (by decide) (fun g h => h.1)).fr hf2 (fun _ _ f => f.elim)
      exact ⟨h3.rd, fun h0 g hg e => e.elim (h3.2 h0 g hg) (h.2 h0 g hg)⟩
    exact ⟨vs, k0 _ _ _ h1, fun i u xs e1 e2 => k0 _ _ _ (h2 i u xs e1 e2)⟩
  have hI0 : TmI w (.slice uo n1 ucap) (.slice ao n1 cap) vs a t n1 (tmerge a 0 t) (tbad t n1) (enumF vs 0) w2 := by
    refine ⟨0, rfl, rfl, ?_, ?_, ?_, ⟨uo, ucap, a, ?_, hX0, rfl, Ha.out, Hs.out⟩, ?_, hf2⟩ <;> rw [← hw2]
    · simp only [alloc_get, World.size_alloc, Nat.add_assoc]; simp
    · simp only [alloc_get, World.size_alloc, Nat.add_assoc]; simp
    · simp only [alloc_get, World.size_alloc, Nat.add_assoc]; simp
    · simp only [alloc_get, World.size_alloc, Nat.add_assoc]; simp
    · simp only [alloc_get, World.size_alloc, Nat.add_assoc]; simp
  have hs2 : w.heap.size + 5 = w2.heap.size := by rw [← hw2]; simp
  have HI0 := Lib.hid hI0
  clear hw2 hI0 hc0 hc1 hf2 hX0
  have hIbk : ∀ s W W', TmI w (.slice uo n1 ucap) (.slice ao n1 cap) vs a t n1 (tmerge a 0 t) (tbad t n1) s W → Bk w2.heap.size W W' → TmI w (.slice uo n1 ucap) (.slice ao n1 cap) vs a t n1 (tmerge a 0 t) (tbad t n1) s W' := by
    rintro s W W' ⟨k, a1, a2, a3, a4, a5, ⟨bo, bc, cur, a6, a7, a8, a9, a10⟩, a11, a12⟩ hb
    exact ⟨k, a1, a2, hb.heap a3 rfl, hb.heap a4 rfl, hb.heap a5 rfl, ⟨bo, bc, cur, hb.heap a6 rfl, fun X hX hT => (a7 X hX hT).bk hb, a8, a9, a10⟩, hb.heap a11 rfl, hb.fr a12 (by omega)⟩
  go_wp2
  refine (wpIn_wide (n := 3)).1 ?_
  refine wpIn_each (ls := enumF vs 0) rfl (by intro h; cases h) (gf := 31) (lb := #[.pointer (some ⟨w.heap.size + 4, 0, none⟩)]) rfl trivial (enters_of Try.func31 (by kernel_rfl) rfl)
    (rows_iter (w.heap.size + 4) n1 (.slice ao n1 cap) vs) (fun _ => rfl) (TmI w (.slice uo n1 ucap) (.slice ao n1 cap) vs a t n1 (tmerge a 0 t) (tbad t n1)) (TmX w (tbad t n1))
    hIbk ?hIx ?hPre HI0.out ?round ?done ?stop
  case hIx => exact fun s W W' h hb => ⟨h.1, h.2.1, hb.heap h.2.2.1 rfl, hb.heap h.2.2.2.1 rfl, hb.fr h.2.2.2.2 (by omega)⟩
  case hPre => exact fun s W ⟨k, a1, a2, a3, a4, a5, a6, a7, a8⟩ => ⟨cell_of_block a7 rfl, by have := (H.out.fr a8).rd; rwa [Hb.out] at this⟩
  case round =>
    rintro l W x s h
    gi_wp2
    refine ⟨Kb.refl _, fun l W' hb hl => ?_⟩
    obtain ⟨k, g1, g2, g3, g4, g5, ⟨bo, bc, cur, g6, g7, g8, g9, g10⟩, g11, g12⟩ := hIbk _ _ _ h hb
    clear hb h hIbk
    have hszW : w.heap.size + 5 ≤ W'.heap.size := (Array.getElem?_eq_some_iff.1 g11).1
    obtain ⟨r, hr, rfl, rfl⟩ := enumF_cons g1.symm
    have hkl : k < t.length := by rw [← H.out.len]; exact (List.getElem?_eq_some_iff.1 hr).1
    obtain ⟨r', xs, hr', hx, hrow⟩ := H.out.get hkl
    rw [hr] at hr'
    cases hr'
    have hxl : xs.length ≤ 1000000 := Hst.out.2 xs (List.mem_of_getElem? hx)
    rw [tbad_drop hx] at g2
    rw [tmerge_drop hx] at g8
    have hrow' := hrow.fr g12 (fun _ _ _ f => f)
    have hvc := (free_round free_wide l).calls (n := 0) (vec_check r xs n1 W' hrow')
    have c3 : W'.cell? ⟨w.heap.size, 0, none⟩ = some (.slice ao n1 cap) := cell_of_block g3 rfl
    obtain ⟨ro, rcap, rfl, _, _⟩ := hrow.cap
    have Hrow := Lib.hid hrow'
    have Hsz := Lib.hid hszW
    clear hszW
    have Hkl := Lib.hid hkl
    have G1 := Lib.hid g1
    have G2 := Lib.hid g2
    have G3 := Lib.hid g3
    have G4 := Lib.hid g4
    have G5 := Lib.hid g5
    have G6 := Lib.hid g6
    have G7 := Lib.hid g7
    have G8 := Lib.hid g8
    have G9 := Lib.hid g9
    have G10 := Lib.hid g10
    have G11 := Lib.hid g11
    have G12 := Lib.hid g12
    clear g1 g2 g3 g4 g5 g6 g7 g8 g9 g10 g11 g12 hr hx hrow hrow' hkl
    gi_wp2
    refine ⟨trivial, hvc.mono ?_⟩
    rintro e w3 ⟨rfl, hf3⟩
    have b3 := hf3.heap G4.out (fun f => f)
    have b4 := hf3.heap G5.out (fun f => f)
    have b6 := hf3.heap G6.out (fun f => f)
    have c1' : w3.cell? ⟨w.heap.size + 1, 0, none⟩ = some (.slice none 0 0) := cell_of_block b3 rfl
    have f1' : w3.frozen? ⟨w.heap.size + 1, 0, none⟩ = false := frozen_of_block b3
    have c4' : w3.cell? ⟨w.heap.size + 1 + 1, 0, none⟩ = some (.int .i64 0) := cell_of_block b4 rfl
    have f4' : w3.frozen? ⟨w.heap.size + 1 + 1, 0, none⟩ = false := frozen_of_block b4
    have c6' : w3.cell? ⟨w.heap.size + 1 + 1 + 1, 0, none⟩ = some (.slice bo n1 bc) := cell_of_block b6 rfl
    have hkb : Kb W' w3 := hf3.kb (fun _ _ f => f.elim)
    have Hf3 := Lib.hid hf3
    have Hkb := Lib.hid hkb
    have B3 := Lib.hid b3
    have B4 := Lib.hid b4
    clear hf3 hkb b3 b4 b6 hvc c3
    by_cases hz : vcheck xs n1 = 0
    · rw [hz]
      have e2 := G2.out
      rw [if_pos hz] at e2
      have E2 := Lib.hid e2
      clear e2
      have hj := (free_round free_wide l).calls (n := 0) (tab_joined_x (.slice bo n1 bc) (.slice ro xs.length rcap) cur k xs w3 ((G7.out no (fun _ f => f.elim) (Hu.out.x (fun _ f => f.elim))).tab.fr Hf3.out) (Hrow.out.fr Hf3.out (fun _ _ _ f => f)) (by rw [G9.out, ← Hb.out]; exact Hkl.out) G10.out hxl)
      rw [G9.out] at hj
      gi_wp2
      refine ⟨trivial, hj.mono ?_⟩
      rintro e w4 ⟨jo, jcap, rfl, _, hf4, hX4⟩
      have hT4 : ∀ X : Nat → Prop, (∀ g, X g → g < w.heap.size) → TabX X w (.slice uo n1 ucap) a → TabX (fun g => TmB w g ∨ X g) w4 (.slice jo n1 jcap) (tjoined cur k xs) := fun X hX hT =>
        hX4 (fun g => TmB w g ∨ X g) (fun g hg => by
          have := Hf3.out.size
          have := Hsz.out
          rcases hg with hg | hg
          · have := hg.2; omega
          · have := hX g hg; omega) ((G7.out X hX hT).fr Hf3.out (fun _ _ f => f.elim))
      clear hX4
      have b6 := hf4.heap (Hf3.out.heap G6.out (fun f => f)) (fun f => f)
      have c6' : w4.cell? ⟨w.heap.size + 1 + 1 + 1, 0, none⟩ = some (.slice bo n1 bc) := cell_of_block b6 rfl
      have f6' : w4.frozen? ⟨w.heap.size + 1 + 1 + 1, 0, none⟩ = false := frozen_of_block b6
      have hkb : Kb w3 w4 := hf4.kb (fun _ _ f => f.elim)
      have Hf4 := Lib.hid hf4
      have HT4 := Lib.hid hT4
      have Hkb2 := Lib.hid hkb
      have B6 := Lib.hid b6
      clear hf4 hT4 hkb b6 hj
      gi_wp2
      have hf : Fr (fun i => i = w.heap.size + 3) w4 (w4.setCell ⟨w.heap.size + 3, 0, none⟩ (.slice jo n1 jcap)) := (Fr.refl (fun i => i = w.heap.size + 3) w4).setCell (p := ⟨w.heap.size + 3, 0, none⟩) (fun _ => rfl) _
      have k34 := Hf3.out.trans' Hf4.out
      refine ⟨(Hkb.out.trans Hkb2.out).trans (Kb.setCell _ _ _), k + 1, rfl, E2.out, hf.heap (k34.heap G3.out (fun f => f)) (by omega), hf.heap (k34.heap G4.out (fun f => f)) (by omega), hf.heap (k34.heap G5.out (fun f => f)) (by omega),
        ⟨jo, jcap, tjoined cur k xs, heap_setC _ B6.out, fun X hX hT => (HT4.out X hX hT).fr hf (fun g _ e => .inl ⟨by omega, by omega⟩), G8.out, by rw [tjoined, List.length_set]; exact G9.out, G10.out.joined k hxl⟩, hf.heap (k34.heap G11.out (fun f => f)) (by omega),
        (G12.out.trans' k34).trans hf (fun i hi e => by omega)⟩
    · have e2 := G2.out
      rw [if_neg hz] at e2
      generalize vcheck xs n1 = y at *
      have Hz := Lib.hid hz
      gi_wp2
      have h1 : Fr no w w3 := G12.out.trans' Hf3.out
      have h2 : Fr no w (w3.setCell ⟨w.heap.size + 1, 0, none⟩ (.slice none 0 0)) := h1.setCell (p := ⟨w.heap.size + 1, 0, none⟩) (fun h => absurd (show w.heap.size + 1 < w.heap.size from h) (by omega)) _
      have s1 := heap_setC (j := 0) (.slice none 0 0) B3.out
      have f1 : Fr (fun i => i = w.heap.size + 1) w3 (w3.setCell ⟨w.heap.size + 1, 0, none⟩ (.slice none 0 0)) := (Fr.refl (fun i => i = w.heap.size + 1) w3).setCell (p := ⟨w.heap.size + 1, 0, none⟩) (fun _ => rfl) _
      have s2 := f1.heap B4.out (by omega)
      have f2 : Fr (fun i => i = w.heap.size + 1 + 1) (w3.setCell ⟨w.heap.size + 1, 0, none⟩ (.slice none 0 0)) ((w3.setCell ⟨w.heap.size + 1, 0, none⟩ (.slice none 0 0)).setCell ⟨w.heap.size + 1 + 1, 0, none⟩ (.int .i64 (tbad t n1))) := (Fr.refl (fun i => i = w.heap.size + 1 + 1) _).setCell (p := ⟨w.heap.size + 1 + 1, 0, none⟩) (fun _ => rfl) _
      refine ⟨(Hkb.out.trans (Kb.setCell _ _ _)).trans (Kb.setCell _ _ _), rfl, ?_, f2.heap s1 (by omega), heap_setC _ s2, h2.trans f2 (fun i hi e => by omega)⟩
      rw [← e2]; exact Hz.out
  case done =>
    rintro D W hD h hd
    obtain ⟨k, g1, g2, g3, g4, g5, ⟨bo, bc, cur, g6, g7, g8, g9, g10⟩, g11, g12⟩ := h
    have hkl := enumF_nil g1.symm
    rw [List.drop_eq_nil_of_le (by rw [← H.out.len]; exact hkl)] at g2 g8
    have c3 : W.cell? ⟨w.heap.size + 1 + 1 + 1, 0, none⟩ = some (.slice bo n1 bc) := cell_of_block g6 rfl
    have c1 : W.cell? ⟨w.heap.size + 1, 0, none⟩ = some (.slice none 0 0) := cell_of_block g4 rfl
    have f1 : W.frozen? ⟨w.heap.size + 1, 0, none⟩ = false := frozen_of_block g4
    have c2 : W.cell? ⟨w.heap.size + 1 + 1, 0, none⟩ = some (.int .i64 0) := cell_of_block g5 rfl
    have f2 : W.frozen? ⟨w.heap.size + 1 + 1, 0, none⟩ = false := frozen_of_block g5
    have G2 := Lib.hid g2
    have G4 := Lib.hid g4
    have G5 := Lib.hid g5
    have G7 := Lib.hid g7
    have G8 := Lib.hid g8
    have G12 := Lib.hid g12
    have Hd := Lib.hid hd
    clear g1 g2 g3 g4 g5 g6 g7 g8 g9 g10 g11 g12 hd hIbk hkl
    go_wp2
    have k1 : Fr (fun i => i = w.heap.size + 1) W (W.setCell ⟨w.heap.size + 1, 0, none⟩ (.slice bo n1 bc)) := (Fr.refl (fun i => i = w.heap.size + 1) W).setCell (p := ⟨w.heap.size + 1, 0, none⟩) (fun _ => rfl) _
    have s1 := heap_setC (j := 0) (.slice bo n1 bc) G4.out
    have s2 := k1.heap G5.out (by omega)
    have hdd := k1.heap Hd.out (by omega)
    generalize W.setCell ⟨w.heap.size + 1, 0, none⟩ (.slice bo n1 bc) = W2 at *
    have k2 : Fr (fun i => i = w.heap.size + 1 + 1) W2 (W2.setCell ⟨w.heap.size + 1 + 1, 0, none⟩ (.int .i64 0)) := (Fr.refl (fun i => i = w.heap.size + 1 + 1) _).setCell (p := ⟨w.heap.size + 1 + 1, 0, none⟩) (fun _ => rfl) _
    have s3 := k2.heap s1 (by omega)
    have s4 := heap_setC (j := 0) (.int .i64 0) s2
    have hd3 := k2.heap hdd (by omega)
    have hfin : Fr no w (W2.setCell ⟨w.heap.size + 1 + 1, 0, none⟩ (.int .i64 0)) := (G12.out.trans k1 (fun i hi e => by omega)).trans k2 (fun i hi e => by omega)
    have hTX : ∀ X : Nat → Prop, (∀ g, X g → g < w.heap.size) → TabX X w (.slice uo n1 ucap) a → TabX (fun g => TmB w g ∨ X g) (W2.setCell ⟨w.heap.size + 1 + 1, 0, none⟩ (.int .i64 0)) (.slice bo n1 bc) cur := fun X hX hT =>
      ((G7.out X hX hT).fr k1 (fun g _ e => .inl ⟨by omega, by omega⟩)).fr k2 (fun g _ e => .inl ⟨by omega, by omega⟩)
    refine leaveOne D rfl hd3 (fun Wf hbf => ?_)
    refine ⟨_, merge_res _ (w.heap.size + 1) (w.heap.size + 1 + 1) _ _ _ rfl rfl (cell_of_block (hbf.heap s3 rfl) rfl) (cell_of_block (hbf.heap s4 rfl) rfl), .slice bo n1 bc, ?_, hbf.fr hfin (by omega), fun _ => ⟨?_, ⟨bo, bc, rfl⟩, fun X hX hT => ?_⟩⟩
    · rw [← G2.out]; rfl
    · rw [← G8.out]; exact ((hTX no (fun _ f => f.elim) (Hu.out.x (fun _ f => f.elim))).bk hbf).tab
    · rw [← G8.out]; exact ((hTX X hX hT).bk hbf).mono (fun g e => .inr e)
  case stop =>
    rintro D c W hD ⟨rfl, g0, g2, g3, g4⟩ hd
    refine wpIn_ret ?_
    refine leaveOne D rfl hd (fun Wf hbf => ?_)
    exact ⟨_, merge_res _ (w.heap.size + 1) (w.heap.size + 1 + 1) _ _ _ rfl rfl (cell_of_block (hbf.heap g2 rfl) rfl) (cell_of_block (hbf.heap g3 rfl) rfl), _, rfl, hbf.fr g4 (by omega), fun e => absurd e g0⟩
theorem tab_merge (u v : Value) (a t : List (List Int)) (w : World) (hu : Tab w u a) (h : Tab w v t) (hn : a.length = t.length) (h0 : 0 < a.length) (hs : Shorts a) (hst : Shorts t) :
    Calls Try.prog 11 #[u, v] w fun e w' => ∃ r, e = .returned (.tuple #[r, .int .i64 (tbad t t.length)]) ∧ Fr no w w' ∧ (tbad t t.length = 0 → Tab w' r (tmerge a 0 t) ∧ ∃ ao cap, r = .slice ao t.length cap) := by
  refine (tab_merge_x u v a t w hu h hn h0 hs hst).mono ?_
  rintro e w' ⟨r, he, h1, h2⟩
  exact ⟨r, he, h1, fun e => ⟨(h2 e).1, (h2 e).2.1⟩⟩
end Go.Proofs.Ytkhjdhdgomndoaa
