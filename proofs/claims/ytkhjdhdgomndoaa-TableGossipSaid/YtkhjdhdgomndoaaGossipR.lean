/- The walk of the law TableGossip. -/
import Derived.Test.YtkhjdhdgomndoaaTabP
import Derived.Test.YtkhjdhdgomndoaaQuiet
import Derived.OpenShut
namespace Go.XL
open Go.RowKit Go.Shelf
set_option linter.unusedVariables false
set_option linter.unusedSimpArgs false
/-- what site r notes -/
def gE (r : Nat) : List Int := vwith [] r (r + 2)
/-- a table that knows the sites S of k -/
def gT (S : Nat → Bool) (k : Nat) : List (List Int) := (List.range k).map fun r : Nat => if S r then gE r else []
theorem gT_len (S : Nat → Bool) (k : Nat) : (gT S k).length = k := by simp [gT]
theorem gT_get (S : Nat → Bool) (k r : Nat) (h : r < k) : (gT S k)[r]? = some (if S r then gE r else []) := by simp [gT, h]
theorem gE_facts : ∀ r : Fin 5, vboth max [] (gE r) = gE r ∧ vboth max (gE r) [] = gE r ∧ vboth max (gE r) (gE r) = gE r ∧ vbad (gE r) = 0 ∧ (gE r).length = r + 1 ∧ (vcov (gE r) (gE r) && vcov (gE r) (gE r)) = true := by decide
theorem gE_fact (r : Nat) (h : r < 5) : vboth max [] (gE r) = gE r ∧ vboth max (gE r) [] = gE r ∧ vboth max (gE r) (gE r) = gE r ∧ vbad (gE r) = 0 ∧ (gE r).length = r + 1 ∧ (vcov (gE r) (gE r) && vcov (gE r) (gE r)) = true := gE_facts ⟨r, h⟩
theorem gT_merge (S T : Nat → Bool) (k : Nat) (h : k ≤ 5) : tmerge (gT S k) 0 (gT T k) = gT (fun r => S r || T r) k := by
  apply List.ext_getElem?
  intro r
  by_cases hr : r < k
  · rw [tmerge_zip _ _ (by rw [gT_len, gT_len]) r _ _ (gT_get S k r hr) (gT_get T k r hr), gT_get _ _ _ hr]
    have := gE_fact r (by omega)
    cases S r <;> cases T r <;> simp [this] <;> rfl
  · rw [List.getElem?_eq_none (by rw [tmerge_len, gT_len]; omega), List.getElem?_eq_none (by rw [gT_len]; omega)]
theorem gT_one (k i : Nat) (h : k ≤ 5) (hi : i < k) : tjoined (List.replicate k []) i (gE i) = gT (fun r => decide (r = i)) k := by
  apply List.ext_getElem?
  intro r
  rw [tjoined_get]
  by_cases hr : r < k
  · rw [gT_get _ _ _ hr]
    by_cases e : i = r
    · subst e
      rw [if_pos rfl, if_pos (by simpa using hi)]
      have := gE_fact i (by omega)
      simp [hi, this]
    · rw [if_neg e, if_neg (by simpa using fun h => e h.symm)]
      simp [hr]
  · rw [if_neg (by omega), List.getElem?_eq_none (by simp; omega), List.getElem?_eq_none (by rw [gT_len]; omega)]
theorem gE_check (r k : Nat) (h : r < k) (hk : k ≤ 5) : vcheck (gE r) k = 0 := by
  unfold vcheck
  have := gE_fact r (by omega)
  rw [if_neg (by omega), if_neg (by omega), if_neg (by omega), this.2.2.2.1]
theorem gT_rows (S : Nat → Bool) (k : Nat) (h : k ≤ 5) : ∀ x ∈ gT S k, x.length ≤ 5 := by
  intro x hx
  simp only [gT, List.mem_map, List.mem_range] at hx
  obtain ⟨r, hr, rfl⟩ := hx
  split
  · have := gE_fact r (by omega); omega
  · simp
theorem gT_shorts (S : Nat → Bool) (k : Nat) (h : k ≤ 5) : Shorts (gT S k) := ⟨by rw [gT_len]; omega, fun x hx => by have := gT_rows S k h x hx; omega⟩
theorem vbad_of_check : True := trivial
theorem tbad_zero (t : List (List Int)) (sites : Int) (h : ∀ x ∈ t, vcheck x sites = 0) : tbad t sites = 0 := by
  induction t with
  | nil => rfl
  | cons x r ih => unfold tbad; rw [if_pos (h x (by simp))]; exact ih (fun y hy => h y (by simp [hy]))
theorem gT_bad (S : Nat → Bool) (k : Nat) (h : k ≤ 5) (h1 : 1 ≤ k) : tbad (gT S k) k = 0 := by
  refine tbad_zero _ _ (fun x hx => ?_)
  simp only [gT, List.mem_map, List.mem_range] at hx
  obtain ⟨r, hr, rfl⟩ := hx
  split
  · exact gE_check r k hr h
  · unfold vcheck; rw [if_neg (by omega), if_neg (by omega), if_neg (by simp)]; rfl
/-- what holds when j steps are done -/
def gInv (S : Nat → Nat → Bool) (L i j : Nat) : Prop := (∀ x, x < i → S x x = true) ∧ ∀ d, L + d ≤ j → S (j % i) ((j - d) % i) = true
theorem gInv_step {S : Nat → Nat → Bool} {L i j : Nat} (hi : 0 < i) (h : gInv S L i j) (p q : Nat) (hpq : j < L ∨ p = j % i ∧ q = (j + 1) % i) : gInv (fun x => if x = q then (fun r => S q r || S p r) else S x) L i (j + 1) := by
  obtain ⟨h1, h2⟩ := h
  have hself : ∀ x, x < i → (fun x => if x = q then (fun r => S q r || S p r) else S x) x x = true := by
    intro x hx
    show (if x = q then (fun r => S q r || S p r) else S x) x = true
    split
    · rename_i e; subst e; simp [h1 x hx]
    · exact h1 x hx
  refine ⟨hself, fun d hd => ?_⟩
  cases d with
  | zero => exact hself _ (Nat.mod_lt _ hi)
  | succ d =>
    rcases hpq with hlt | ⟨rfl, rfl⟩
    · omega
    · have := h2 d (by omega)
      show (if (j + 1) % i = (j + 1) % i then (fun r => S ((j + 1) % i) r || S (j % i) r) else S ((j + 1) % i)) ((j + 1 - (d + 1)) % i) = true
      rw [if_pos rfl, show j + 1 - (d + 1) = j - d by omega, this, Bool.or_true]
theorem gInv_all {S : Nat → Nat → Bool} {L i : Nat} (hi : 0 < i) (h : gInv S L i (L + 2 * i)) (r : Nat) (hr : r < i) : S ((L + 2 * i) % i) r = true := by
  have := h.2 ((L + 2 * i - r) % i) (by have := Nat.mod_lt (L + 2 * i - r) hi; omega)
  have e : (L + 2 * i - (L + 2 * i - r) % i) % i = r := by
    have h1 := Nat.div_add_mod (L + 2 * i - r) i
    have h2 := Nat.mod_lt (L + 2 * i - r) hi
    have e2 : L + 2 * i - (L + 2 * i - r) % i = r + i * ((L + 2 * i - r) / i) := by omega
    rw [e2, Nat.add_mul_mod_self_left, Nat.mod_eq_of_lt hr]
  rw [e] at this
  exact this
/-- the array of k tables: site i's knows S i -/
def GI (E : TypeId) (w : World) (A n k : Nat) (S : Nat → Nat → Bool) (W : World) : Prop :=
  w.heap.size ≤ A ∧ Fr no w W ∧ ∃ cs : Array Value, W.heap[A]? = some (.cells cs E (0, 0)) ∧ cs.size = 5 ∧ ∀ i, i < n → ∃ ao cap, cs[i]? = some (.slice ao k cap) ∧ k ≤ cap ∧ cap ≤ 9223372036854775807 ∧ TabX (fun g => g = A) W (.slice ao k cap) (gT (S i) k)
theorem GI.fr {E : TypeId} {w : World} {A n k : Nat} {S : Nat → Nat → Bool} {W W' : World} (h : GI E w A n k S W) (hf : Fr no W W') : GI E w A n k S W' := by
  obtain ⟨h1, h2, cs, h3, h4, h5⟩ := h
  refine ⟨h1, h2.trans' hf, cs, hf.heap h3 (fun f => f), h4, fun i hi => ?_⟩
  obtain ⟨ao, cap, e1, e2, e3, e4⟩ := h5 i hi
  exact ⟨ao, cap, e1, e2, e3, e4.fr hf (fun _ _ f => f.elim)⟩
theorem GI.drewN {E : TypeId} {w : World} {A n k : Nat} {S : Nat → Nat → Bool} {W : World} (h : GI E w A n k S W) (q : Nat) : GI E w A n k S (W.drewN q) := h.fr ((Fr.refl no W).drewN q)
theorem GI.get {E : TypeId} {w : World} {A n k : Nat} {S : Nat → Nat → Bool} {W : World} (h : GI E w A n k S W) {i : Nat} (hi : i < n) :
    ∃ ao cap, W.cell? ⟨A, i, none⟩ = some (.slice ao k cap) ∧ k ≤ cap ∧ cap ≤ 9223372036854775807 ∧ TabX (fun g => g = A) W (.slice ao k cap) (gT (S i) k) := by
  obtain ⟨h1, h2, cs, h3, h4, h5⟩ := h
  obtain ⟨ao, cap, e1, e2, e3, e4⟩ := h5 i hi
  exact ⟨ao, cap, cell_of_block h3 e1, e2, e3, e4⟩
theorem GI.frozen {E : TypeId} {w : World} {A n k : Nat} {S : Nat → Nat → Bool} {W : World} (h : GI E w A n k S W) (i : Nat) : W.frozen? ⟨A, i, none⟩ = false := by
  obtain ⟨h1, h2, cs, h3, h4, h5⟩ := h
  exact frozen_of_block h3
theorem GI.any {E : TypeId} {w : World} {A n k : Nat} {S : Nat → Nat → Bool} {W : World} (h : GI E w A n k S W) {i : Nat} (hi : i < 5) : ∃ u, W.cell? ⟨A, i, none⟩ = some u := by
  obtain ⟨h1, h2, cs, h3, h4, h5⟩ := h
  exact ⟨_, cell_of_block h3 (by simp [h4, hi] : cs[i]? = some cs[i])⟩
theorem GI.set {E : TypeId} {w : World} {A n k : Nat} {S : Nat → Nat → Bool} {W : World} (h : GI E w A n k S W) {i : Nat} (hi : i < 5) {ao : Option Addr} {cap : Nat} {T : Nat → Bool} (h1 : k ≤ cap) (h2 : cap ≤ 9223372036854775807) (hT : TabX (fun g => g = A) W (.slice ao k cap) (gT T k)) (n' : Nat) (hn : n' ≤ n ∨ i = n ∧ n' = n + 1) :
    GI E w A n' k (fun j => if j = i then T else S j) (W.setCell ⟨A, i, none⟩ (.slice ao k cap)) := by
  obtain ⟨g1, g2, cs, g3, g4, g5⟩ := h
  have hf : Fr (fun g => g = A) W (W.setCell ⟨A, i, none⟩ (.slice ao k cap)) := (Fr.refl (fun g => g = A) W).setCell (p := ⟨A, i, none⟩) (fun _ => rfl) _
  refine ⟨g1, g2.trans hf (fun j hj e => by omega), _, heap_setC _ g3, by simpa using g4, fun j hj => ?_⟩
  by_cases e : j = i
  · subst e
    refine ⟨ao, cap, by simp [g4, hi], h1, h2, ?_⟩
    show TabX _ _ _ (gT (if j = j then T else S j) k)
    rw [if_pos rfl]
    exact hT.fr hf (fun g _ e => e)
  · obtain ⟨ao', cap', e1, e2, e3, e4⟩ := g5 j (by omega)
    refine ⟨ao', cap', by rw [Array.getElem?_setIfInBounds_ne (fun h => e h.symm)]; exact e1, e2, e3, ?_⟩
    show TabX _ _ _ (gT (if j = i then T else S j) k)
    rw [if_neg e]
    exact e4.fr hf (fun g _ e => e)
end Go.XL
namespace Go.Proofs.Ytkhjdhdgomndoaa
open Go.RowKit Go.Shelf Go.XL
set_option linter.unusedVariables false
set_option linter.unusedSimpArgs false
attribute [local go_sem] Oper.semAt_some

set_option maxRecDepth 100000 in
set_option maxHeartbeats 4000000 in
theorem gossip_any (v : Value) (zs : List Int) (L : Nat) (a : Int) (w : World) (hv : Rd w 1 v L (zs.map (Value.int .u8))) (hz : ∀ x ∈ zs, 0 ≤ x ∧ x ≤ 255) (ha0 : 0 ≤ a) (ha1 : a ≤ 255) :
    Calls Try.prog 6 #[.int .u8 a, v] w fun e w' => e = .returned (.bool true) ∧ Fr no w w' := by
  obtain ⟨ao, cap, rfl, hcap, hmx⟩ := hv.cap
  have hl : zs.length = L := by simpa using hv.1
  have Hv := Lib.hid hv
  have Hz := Lib.hid hz
  have Hl := Lib.hid hl
  clear hv hz hl
  obtain ⟨k, hk, hk1, hk5⟩ : ∃ k : Nat, 1 + a % 5 = (k : Int) ∧ 1 ≤ k ∧ k ≤ 5 := ⟨(1 + a % 5).toNat, by omega, by omega, by omega⟩
  go_enter Try.func6, Try.ntmps6
  go_wp2_with fail
  refine (known_any w).mono ?_
  rintro e w1 ⟨rfl, hf1⟩
  have F1 := Lib.hid hf1
  clear hf1
  by_cases hL : 60 < L
  · go_wp2
    go_ret
    exact ⟨rfl, F1.out⟩
  · go_wp2_with fail
    obtain ⟨A, hA⟩ : ∃ A : Nat, A = w1.heap.size := ⟨_, rfl⟩
    have hG : GI 46 w A 0 k (fun i r => decide (r = i)) (w1.alloc (.cells #[.slice none 0 0, .slice none 0 0, .slice none 0 0, .slice none 0 0, .slice none 0 0] 46)) := by
      refine ⟨by rw [hA]; exact F1.out.size, F1.out.trans' ((Fr.refl _ _).alloc _), _, by rw [hA]; exact World.alloc_heap_new w1 _, rfl, fun i hi => absurd hi (Nat.not_lt_zero _)⟩
    have HG := Lib.hid hG
    clear hG
    have hd : decide ((60 : Int) < (L : Int)) = false := decide_eq_false (by omega)
    rw [← hA, hd]
    clear hd
    have HA := Lib.hid hA
    generalize w1.alloc (.cells #[.slice none 0 0, .slice none 0 0, .slice none 0 0, .slice none 0 0, .slice none 0 0] 46) = w2 at *
    clear hA
    go_loopw [7] (fun iv wr => ∃ (i : Nat), i ≤ k ∧ iv = .int .i64 i ∧ Hid (GI 46 w A i k (fun i r => decide (r = i)) wr)) (fun iv _ => k - (intOf iv).toNat)
    case atStart => exact ⟨0, Nat.zero_le _, rfl, HG⟩
    case round =>
      obtain ⟨i, hi, rfl, hG⟩ := hrel
      clear HG
      by_cases hik : i < k
      · have hmod : (i : Int) % (k : Int) = i := Int.emod_eq_of_lt (by omega) (by omega)
        have hmod' : (i : Int).tmod (k : Int) = i := by rw [Int.tmod_eq_emod_of_nonneg (by omega)]; exact hmod
        go_wp2_with fail
        have hAw : A < wr.heap.size := by obtain ⟨_, _, cs, h3, _⟩ := hG.out; exact (Array.getElem?_eq_some_iff.1 h3).1
        refine (tab_new_x k wr hk1 (by omega)).mono ?_
        rintro e w3 ⟨ao3, cap3, rfl, hT3, hf3, hX3⟩
        have hG := Lib.hid (hG.out.fr hf3)
        have T3 := Lib.hid hT3
        have X3 := Lib.hid (hX3 (fun g => g = A) (fun g e => by omega))
        have hAw := Nat.lt_of_lt_of_le hAw hf3.size
        clear hT3 hf3 hX3
        go_wp2_with fail
        have hwt := vec_with (.slice none 0 0) [] (i : Int) ((i : Int) + 2) w3 (Rd.zero _ _) (by simp)
        refine hwt.mono ?_
        rintro e w4 ⟨v4, rfl, hM4⟩
        have hG := Lib.hid (hG.out.fr hM4.fr)
        have T4 := Lib.hid (T3.out.fr hM4.fr)
        have X4 := Lib.hid (X3.out.fr hM4.fr (fun _ _ f => f.elim))
        have I4 := Lib.hid hM4.rd
        have hAw := Nat.lt_of_lt_of_le hAw hM4.fr.size
        clear hM4 hwt T3 X3
        have hck : vcheck (gE i) (List.replicate k ([] : List Int)).length = 0 := by rw [List.length_replicate]; exact gE_check i k hik hk5
        have hnt := tab_note_x (.slice ao3 k cap3) v4 (List.replicate k []) i (gE i) w4 T4.out I4.out (by simpa using hik) ⟨by simp; omega, fun ys hy => by simp at hy; rw [hy.2]; simp⟩ hck (by have := gE_fact i (by omega); omega)
        rw [gT_one k i hk5 hik, List.length_replicate] at hnt
        go_wp2_with fail
        refine hnt.mono ?_
        rintro e w5 ⟨ao5, cap5, rfl, hT5, hf5, hX5⟩
        have hX5 := hX5 (fun g => g = A) (fun g e => by omega) X4.out
        have hG5 := hG.out.fr hf5
        obtain ⟨u, hu⟩ := hG5.any (i := i) (by omega)
        have hfz := hG5.frozen i
        have hcp := hX5.cap
        have hS := hG5.set (i := i) (by omega) hcp.1 hcp.2 hX5 (i + 1) (.inr ⟨rfl, rfl⟩)
        have e0 : (fun j => if j = i then (fun r => decide (r = i)) else (fun r => decide (r = j))) = (fun i r => decide (r = i) : Nat → Nat → Bool) := by
          funext j; by_cases e : j = i
          · rw [if_pos e, e]
          · rw [if_neg e]
        rw [e0] at hS
        have HS := Lib.hid hS
        clear hS hG5 hX5 hT5 hf5 hnt hck e0 hG T4 X4 I4 hcp
        go_wp2
        go_roundw
        case rel => exact ⟨i + 1, by omega, by go_num, HS⟩
        case measure => simp [intOf]; omega
      · obtain rfl : i = k := by omega
        have hG0 : Hid (∃ S : Nat → Nat → Bool, GI 46 w A i i S wr ∧ gInv S L i 0) :=
          Lib.hid ⟨_, hG.out, fun j _ => (by simp), fun d hd => by have e : d = 0 := (by omega); subst e; simp⟩
        clear hG
        go_wp2_with fail
        go_loopw [12] (fun iv wr => ∃ (j : Nat), j ≤ L + 2 * i ∧ iv = .int .i64 j ∧ Hid (∃ S : Nat → Nat → Bool, GI 46 w A i i S wr ∧ gInv S L i j)) (fun iv _ => L + 2 * i - (intOf iv).toNat)
        case atStart => exact ⟨0, Nat.zero_le _, rfl, hG0⟩
        case round =>
          obtain ⟨j, hj, rfl, hG⟩ := hrel
          clear hG0
          by_cases hjl : j < L + 2 * i
          · obtain ⟨p, hp⟩ : ∃ p : Nat, p = j % i := ⟨_, rfl⟩
            obtain ⟨q, hq⟩ : ∃ q : Nat, q = (j + 1) % i := ⟨_, rfl⟩
            have hpi : (j : Int) % (i : Int) = p := by rw [hp]; simp
            have hpt : (j : Int).tmod (i : Int) = p := by rw [hp, Int.ofNat_tmod]
            have hqi : ((j : Int) + 1) % (i : Int) = q := by rw [hq]; simp
            have hqt : ((j : Int) + 1).tmod (i : Int) = q := by rw [hq, Int.ofNat_tmod]; simp
            have hpl : p < i := by rw [hp]; exact Nat.mod_lt _ (by omega)
            have hql : q < i := by rw [hq]; exact Nat.mod_lt _ (by omega)
            have Hp := Lib.hid hp
            have Hq := Lib.hid hq
            clear hp hq
            go_wp2_with fail
            go_quiet (fail)
            obtain ⟨S, hGI, hS⟩ := hG.out
            have hGI := Lib.hid (hGI.drewN nq)
            have HS := Lib.hid hS
            clear hS hG
            have tail : Hid (∀ (p q : Nat) (W : World), p < i → q < i → (j < L ∨ p = j % i ∧ q = (j + 1) % i) → GI 46 w A i i S W → ∃ ao1 c1 ao2 c2, W.cell? ⟨A, q, none⟩ = some (.slice ao1 i c1) ∧ W.cell? ⟨A, p, none⟩ = some (.slice ao2 i c2) ∧
                Calls Try.prog 11 #[.slice ao1 i c1, .slice ao2 i c2] W fun e w' => ∃ ao3 c3, e = .returned (.tuple #[.slice ao3 i c3, .int .i64 0]) ∧ w'.cell? ⟨A, q, none⟩ = some (.slice ao1 i c1) ∧ w'.cell? ⟨A, p, none⟩ = some (.slice ao2 i c2) ∧ w'.frozen? ⟨A, q, none⟩ = false ∧ Hid (∃ S' : Nat → Nat → Bool, GI 46 w A i i S' (w'.setCell ⟨A, q, none⟩ (.slice ao3 i c3)) ∧ gInv S' L i (j + 1))) := by
              refine Lib.hid ?_
              intro p q W hp hq hpq hG
              obtain ⟨ao1, c1, e1, _, _, hT1⟩ := hG.get hq
              obtain ⟨ao2, c2, e2, _, _, hT2⟩ := hG.get hp
              refine ⟨ao1, c1, ao2, c2, e1, e2, ?_⟩
              have hAW : A < W.heap.size := World.block_lt_of_cell? W ⟨A, q, none⟩ e1
              have hm := tab_merge_x _ _ _ _ W hT1.tab hT2.tab (by rw [gT_len, gT_len]) (by rw [gT_len]; omega) (gT_shorts _ _ hk5) (gT_shorts _ _ hk5)
              rw [gT_len, gT_bad _ _ hk5 hk1, gT_merge _ _ _ hk5] at hm
              refine hm.mono ?_
              rintro e w' ⟨r, rfl, hf, hr⟩
              obtain ⟨_, ⟨ao3, c3, rfl⟩, hX⟩ := hr rfl
              have hX := hX (fun g => g = A) (fun g e => by omega) hT1
              have hG' := hG.fr hf
              have hcp := hX.cap
              exact ⟨ao3, c3, rfl, hf.cell e1 (fun f => f), hf.cell e2 (fun f => f), hG'.frozen q, Lib.hid ⟨_, hG'.set (by omega) hcp.1 hcp.2 hX i (.inl (Nat.le_refl _)), gInv_step (by omega) HS.out p q hpq⟩⟩
            clear HS
            by_cases hjL : j < L
            · obtain ⟨g, off, c, he, _, _, hx⟩ := (Hv.out.fr hGI.out.2.1 (fun _ _ _ f => f)).form (by omega)
              cases he
              have hjz : j < zs.length := by rw [Hl.out]; exact hjL
              obtain ⟨x, hxj⟩ : ∃ x, zs[j]? = some x := ⟨zs[j], by simp [hjz]⟩
              have hx1 := Hz.out x (List.mem_of_getElem? hxj)
              obtain ⟨hx0, hx1⟩ := hx1
              have hcx0 : (wr.drewN nq).cell? ⟨g, off + j, none⟩ = some (.int .u8 x) := hx j _ (by rw [List.getElem?_map, hxj]; rfl)
              obtain ⟨p2, hp2⟩ : ∃ p2 : Nat, x % (i : Int) = p2 := ⟨(x % (i : Int)).toNat, by have := Int.emod_nonneg x (show (i : Int) ≠ 0 by omega); omega⟩
              obtain ⟨q2, hq2⟩ : ∃ q2 : Nat, (x / 8) % (i : Int) = q2 := ⟨((x / 8) % (i : Int)).toNat, by have := Int.emod_nonneg (x / 8) (show (i : Int) ≠ 0 by omega); omega⟩
              have hp2l : p2 < i := by have := Int.emod_lt_of_pos x (show (0 : Int) < i by omega); omega
              have hq2l : q2 < i := by have := Int.emod_lt_of_pos (x / 8) (show (0 : Int) < i by omega); omega
              have hp2t : x.tmod (i : Int) = p2 := by rw [Int.tmod_eq_emod_of_nonneg hx0]; exact hp2
              have hq2t : (x / 8).tmod (i : Int) = q2 := by rw [Int.tmod_eq_emod_of_nonneg (by omega)]; exact hq2
              have hq3t : (x.tdiv 8).tmod (i : Int) = q2 := by rw [Int.tdiv_eq_ediv_of_nonneg hx0]; exact hq2t
              have hq4t : (x.tdiv 8) % (i : Int) = q2 := by rw [Int.tdiv_eq_ediv_of_nonneg hx0]; exact hq2
              have hx8 : 0 ≤ x / 8 := by omega
              have hx9 : x / 8 ≤ 255 := by omega
              clear hx hjz hxj
              generalize wr.drewN nq = wq at *
              go_wp2_with fail
              go_quiet (fail)
              have hGX : Hid (GI 46 w A i i S (wq.drewN nq).drew) := Lib.hid ((hGI.out.drewN nq).drewN 1)
              have h5a : (p2 : Int) < 5 := by omega
              have h5b : (q2 : Int) < 5 := by omega
              clear hGI hcx0 hp2 hq2 hp2t hq2t hq3t hq4t
              generalize wq.drewN nq = wX at *
              obtain ⟨ao1, c1, ao2, c2, e1, e2, hm⟩ := tail.out p2 q2 wX.drew hp2l hq2l (.inl hjL) hGX.out
              clear tail
              go_wp2_with fail
              have Hm := Lib.hid hm
              clear hm
              go_region_held3 (fun w' => w'.cell? ⟨A, q2, none⟩ = some (.slice ao1 i c1) ∧ w'.cell? ⟨A, p2, none⟩ = some (.slice ao2 i c2)) (go_keep)
                (first | (go_at_call 11; refine (Hm.out).mono ?_; rintro e w' ⟨ao3, c3, rfl, m1, m2, m3, m4⟩))
              clear Hm hGX e1 e2
              go_wp2
              go_roundw
              case rel => exact ⟨j + 1, by omega, by go_num, m4⟩
              case measure => simp [intOf]; omega
            · clear hpi hpt hqi hqt
              have hGX : Hid (GI 46 w A i i S (wr.drewN nq).drew) := Lib.hid (hGI.out.drewN 1)
              have h5a : (p : Int) < 5 := by omega
              have h5b : (q : Int) < 5 := by omega
              clear hGI
              generalize wr.drewN nq = wX at *
              obtain ⟨ao1, c1, ao2, c2, e1, e2, hm⟩ := tail.out p q wX.drew hpl hql (.inr ⟨Hp.out, Hq.out⟩) hGX.out
              clear tail
              go_wp2_with fail
              have Hm := Lib.hid hm
              clear hm
              go_region_held3 (fun w' => w'.cell? ⟨A, q, none⟩ = some (.slice ao1 i c1) ∧ w'.cell? ⟨A, p, none⟩ = some (.slice ao2 i c2)) (go_keep)
                (first | (go_at_call 11; refine (Hm.out).mono ?_; rintro e w' ⟨ao3, c3, rfl, m1, m2, m3, m4⟩))
              clear Hm hGX e1 e2
              go_wp2
              go_roundw
              case rel => exact ⟨j + 1, by omega, by go_num, m4⟩
              case measure => simp [intOf]; omega
          · obtain rfl : j = L + 2 * i := by omega
            obtain ⟨z, hz⟩ : ∃ z : Nat, z = (L + 2 * i) % i := ⟨_, rfl⟩
            have hzi : ((L : Int) + 2 * i) % (i : Int) = z := by rw [hz]; simp
            have hzt : ((L : Int) + 2 * i).tmod (i : Int) = z := by rw [hz, Int.ofNat_tmod]; simp
            have hzl : z < i := by rw [hz]; exact Nat.mod_lt _ (by omega)
            have hz5 : (z : Int) < 5 := by omega
            have hG0 : Hid (∃ S : Nat → Nat → Bool, GI 46 w A i i S wr ∧ ∀ r, r < i → S z r = true) := by
              obtain ⟨S, hG1, hG2⟩ := hG.out
              exact Lib.hid ⟨S, hG1, fun r hr => by rw [hz]; exact gInv_all (by omega) hG2 r hr⟩
            have hcast : ((L + 2 * i : Nat) : Int) = (L : Int) + 2 * i := by simp
            rw [hcast]
            clear hG hz hcast
            go_wp2_with fail
            go_loopw [17] (fun rv wx => ∃ (r : Nat), r ≤ i ∧ rv = .int .i64 r ∧ Hid (∃ S : Nat → Nat → Bool, GI 46 w A i i S wx ∧ ∀ r, r < i → S z r = true)) (fun rv _ => i - (intOf rv).toNat)
            case atStart => exact ⟨0, Nat.zero_le _, rfl, hG0⟩
            case round =>
              obtain ⟨r, hr, rfl, hG⟩ := hrel
              clear hG0
              rename_i wy
              by_cases hri : r < i
              · obtain ⟨S, hG1, hG2⟩ := hG.out
                obtain ⟨lo, lc, e1, hlc, hlm, hTX⟩ := hG1.get hzl
                have hrow : (gT (S z) i)[r]? = some (gE r) := by rw [gT_get _ _ _ hri, hG2 r hri]; rfl
                have hge := gE_fact r (by omega)
                have hrw := tab_row _ _ r (gE r) _ hTX.tab hrow (by omega)
                have HG1 := Lib.hid hG1
                have HG2 := Lib.hid hG2
                have Hge := Lib.hid hge
                clear hG1 hG2 hTX hrow hge hG
                go_wp2_with fail
                refine hrw.mono ?_
                rintro e w6 ⟨ao6, c6, rfl, hM6⟩
                have HG1 := Lib.hid (HG1.out.fr hM6.fr)
                have HM6 := Lib.hid hM6.rd
                clear hM6 hrw e1
                go_wp2_with fail
                refine (vec_with (.slice none 0 0) [] (r : Int) ((r : Int) + 2) w6 (Rd.zero _ _) (by simp)).mono ?_
                rintro e w7 ⟨v7, rfl, hM7⟩
                have HG1 := Lib.hid (HG1.out.fr hM7.fr)
                have hsm := ref_same _ _ _ _ w7 (HM6.out.fr hM7.fr (fun _ _ _ f => f)) hM7.rd
                have e9 : (vcov (gE r) (vwith [] (r : Int) ((r : Int) + 2)) && vcov (vwith [] (r : Int) ((r : Int) + 2)) (gE r)) = true := Hge.out.2.2.2.2.2
                rw [e9] at hsm
                clear hM7 HM6 e9
                go_wp2_with fail
                refine hsm.mono ?_
                rintro e w' ⟨rfl, rfl⟩
                clear hsm
                go_wp2
                go_roundw
                case rel => exact ⟨r + 1, by omega, by go_num, Lib.hid ⟨S, HG1.out, HG2.out⟩⟩
                case measure => simp [intOf]; omega
              · obtain rfl : r = i := by omega
                go_wp2
                go_ret
                obtain ⟨S, hG1, _⟩ := hG.out
                exact ⟨rfl, hG1.2.1⟩
end Go.Proofs.Ytkhjdhdgomndoaa
