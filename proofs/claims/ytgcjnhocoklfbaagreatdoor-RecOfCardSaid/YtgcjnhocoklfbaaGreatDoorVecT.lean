/- Contracts of the package vec: Sum, Text, Parse. -/
import Derived.Test.YtgcjnhocoklfbaaGreatDoorVecN
namespace Go.XL
open Go.RowKit Go.Shelf
set_option linter.unusedVariables false
set_option linter.unusedSimpArgs false
/-- how many places there are up to the last one that is not nothing -/
def vlast (xs : List Int) : Nat := (vallF xs 0).foldl (fun _ x => x.1 + 1) 0
/-- a vector in words -/
def vtext (xs : List Int) : List UInt8 := 91 :: (wjoin ((xs.take (vlast xs)).map Lib.itoa) ++ [93])
/-- numbers of 64 bits -/
def I64s (xs : List Int) : Prop := ∀ x ∈ xs, -9223372036854775808 ≤ x ∧ x ≤ 9223372036854775807
/-- what a text is as a vector -/
def vwords (ws : List (List UInt8)) : List Int × Int :=
  if ws.all digs then (if ws.getLast? = some [48] then ([], 2) else if (ws.all fun w => decide ((dval w : Int) ≤ 1048576)) && decide (ws.length ≤ 8) then (ws.map fun w => (dval w : Int), 0) else ([], 4)) else ([], 2)
def vparse (l : List UInt8) : List Int × Int :=
  if l.head? = some 91 ∧ l.tail.getLast? = some 93 then (if l.tail.dropLast = [] then ([], 0) else vwords (wsplit l.tail.dropLast)) else ([], 2)
def vsum (xs : List Int) : Int := xs.foldl (· + ·) 0
theorem vsum_go (xs : List Int) : ∀ a : Int, xs.foldl (· + ·) a = a + vsum xs := by
  induction xs with
  | nil => intro a; simp [vsum]
  | cons x xs ih =>
    intro a
    have e : vsum (x :: xs) = xs.foldl (· + ·) (0 + x) := rfl
    rw [e, List.foldl_cons, ih (a + x), ih (0 + x)]; omega
theorem vsum_cons (x : Int) (xs : List Int) : vsum (x :: xs) = x + vsum xs := by
  have e : vsum (x :: xs) = xs.foldl (· + ·) (0 + x) := rfl
  rw [e, vsum_go]; omega
theorem vsum_nonneg (xs : List Int) (h : ∀ x ∈ xs, 0 ≤ x) : 0 ≤ vsum xs := by
  induction xs with
  | nil => exact Int.le_refl _
  | cons x xs ih => rw [vsum_cons]; have := h x (by simp); have := ih (fun y hy => h y (by simp [hy])); omega
theorem vsum_all (xs : List Int) : ∀ k, vsum ((vallF xs k).map Prod.snd) = vsum xs := by
  induction xs with
  | nil => intro k; rfl
  | cons x xs ih =>
    intro k
    rw [vallF]
    by_cases h : x = 0
    · rw [if_pos h, ih, vsum_cons, h]; omega
    · rw [if_neg h, List.map_cons, vsum_cons, vsum_cons, ih]
theorem vallF_mem (xs : List Int) : ∀ k (x : Nat × Int), x ∈ vallF xs k → x.2 ∈ xs ∧ x.2 ≠ 0 ∧ k ≤ x.1 ∧ x.1 < k + xs.length := by
  induction xs with
  | nil => intro k x hx; simp [vallF] at hx
  | cons a xs ih =>
    intro k x hx
    rw [vallF] at hx
    by_cases h : a = 0
    · rw [if_pos h] at hx
      obtain ⟨h1, h2, h3, h4⟩ := ih _ _ hx
      exact ⟨by simp [h1], h2, by omega, by simp; omega⟩
    · rw [if_neg h] at hx
      rcases List.mem_cons.1 hx with rfl | hx
      · exact ⟨by simp, h, Nat.le_refl _, by simp⟩
      · obtain ⟨h1, h2, h3, h4⟩ := ih _ _ hx
        exact ⟨by simp [h1], h2, by omega, by simp; omega⟩
theorem dd_len : ∀ (k u : Nat), u < 10 ^ k → (Lib.decDigits u).length ≤ k + 1
  | 0, u, h => by rw [Lib.decDigits_one (by simp at h; omega)]; simp
  | k + 1, u, h => by
    rw [Lib.decDigits]
    by_cases h1 : u < 10
    · rw [dif_pos h1]; simp
    · rw [dif_neg h1, List.length_append]
      have := dd_len k (u / 10) (by rw [Nat.pow_succ] at h; omega)
      simp; omega
theorem itoa_len (n : Int) (h0 : -9223372036854775808 ≤ n) (h1 : n ≤ 9223372036854775807) : (Lib.itoa n).length ≤ 22 := by
  unfold Lib.itoa
  split
  · have := dd_len 20 n.natAbs (by have e : (10 : Nat) ^ 20 = 100000000000000000000 := by decide
                                   omega)
    simp; omega
  · have := dd_len 20 n.toNat (by have e : (10 : Nat) ^ 20 = 100000000000000000000 := by decide
                                  omega)
    omega
theorem wjoin_len : ∀ (ws : List (List UInt8)), (∀ w ∈ ws, w.length ≤ 22) → (wjoin ws).length ≤ 23 * ws.length
  | [], _ => by simp [wjoin]
  | [w], h => by have := h w (by simp); simp [wjoin]; omega
  | w :: w2 :: ws, h => by
    have h1 := h w (by simp)
    have h2 := wjoin_len (w2 :: ws) (fun v hv => h v (by simp only [List.mem_cons] at hv ⊢; exact .inr hv))
    rw [wjoin, List.length_append, List.length_cons, List.length_cons]
    rw [List.length_cons] at h2 ⊢
    omega
theorem run_cutTo0 {P : Program} (t e : TypeId) (i : TypeInfo) (size : Nat) (ht : P.underlying t = some (.slice e)) (hi : P.info? e = some i) (hsz : i.size = size) (ao : Option Addr) (n cap hi' : Nat) (h2 : hi' ≤ cap) (h0 : ao = none → cap = 0) :
    (∀ w, (Instr.slice t (.slice ao n cap) none (some (.int .i64 hi')) none).run P w = .ok (.slice ao hi' cap) w) := by
  subst hsz
  intro w
  cases ao with
  | none =>
    have h3 := h0 rfl
    subst h3
    have h4 : hi' = 0 := by omega
    subst h4
    simp [Instr.slice, run_underlying ht, Instr.sliceBounds, Instr.sliceBound, asIntOf, sizeOf, typeInfo, hi]
  | some a =>
    simp [Instr.slice, run_underlying ht, Instr.sliceBounds, Instr.sliceBound, asIntOf, h2, sizeOf, typeInfo, hi]
    by_cases hc : cap = 0
    · simp [hc]
    · have : a.add 0 = a := by simp [Addr.add]
      simp [this]
theorem vlast_le (xs : List Int) : vlast xs ≤ xs.length := by
  have key : ∀ (l : List (Nat × Int)) (a : Nat), a ≤ xs.length → (∀ x ∈ l, x.1 < xs.length) → l.foldl (fun _ x => x.1 + 1) a ≤ xs.length := by
    intro l
    induction l with
    | nil => exact fun a h _ => h
    | cons x l ih => intro a h h2; exact ih _ (h2 x (by simp)) (fun y hy => h2 y (by simp [hy]))
  exact key _ 0 (Nat.zero_le _) (fun x hx => by have := (vallF_mem xs 0 x hx).2.2.2; omega)
end Go.XL
namespace Go.Proofs.YtgcjnhocoklfbaaGreatDoor
open Go.RowKit Go.Shelf Go.XL
set_option linter.unusedVariables false
set_option linter.unusedSimpArgs false
attribute [local go_sem] Oper.semAt_some
/-- what holds between two rounds of Sum -/
def SuI (w : World) (v : Value) (t : Int) (s : List (Nat × Int)) (W : World) : Prop :=
  ∃ a : Int, 0 ≤ a ∧ a + vsum (s.map Prod.snd) = t ∧ (∀ x ∈ s, 0 ≤ x.2) ∧ W.heap[w.heap.size]? = some (.cells #[.int .i64 a] 3 (0, 0)) ∧ W.heap[w.heap.size + 1]? = some (.cells #[v] 23 (0, 0)) ∧ Fr no w W

/-- what holds between two rounds of Text -/
def TxI (w : World) (v : Value) (n L : Nat) (s : List (Nat × Int)) (W : World) : Prop :=
  ∃ a : Nat, s.foldl (fun _ x => x.1 + 1) a = L ∧ (∀ x ∈ s, x.1 < n) ∧ W.heap[w.heap.size]? = some (.cells #[.int .i64 (a : Int)] 3 (0, 0)) ∧ W.heap[w.heap.size + 1]? = some (.cells #[v] 23 (0, 0)) ∧ Fr no w W
/-- the numbers in words, up to k -/
def TxO (w wr : World) (v : Value) (xs : List Int) (k : Nat) : Prop := Ow w wr 9 1 v k ((xs.take k).map fun x => Value.string ⟨(Lib.itoa x).toArray⟩)

set_option maxRecDepth 100000 in
set_option maxHeartbeats 2000000 in
theorem vec_text (v : Value) (xs : List Int) (w : World) (h : IntsAt w v xs) (h64 : I64s xs) (hn : xs.length ≤ 1000000) (hG : Gl w) :
    Calls Tryz.prog 33 #[v] w fun e w' => e = .returned (.string ⟨(vtext xs).toArray⟩) ∧ Fr no w w' := by
  obtain ⟨ao, cap, rfl, hcap, hmx⟩ := h.cap
  obtain ⟨L, hL⟩ : ∃ L, vlast xs = L := ⟨_, rfl⟩
  have hLn := vlast_le xs
  rw [hL] at hLn
  have hpos : ∀ x ∈ vallF xs 0, x.1 < xs.length := fun x hx => by have := (vallF_mem xs 0 x hx).2.2.2; omega
  have hnone : ao = none → cap = 0 := by
    obtain ⟨_, a', c', he, _, _, hz, _⟩ := h
    cases he
    exact hz
  obtain ⟨i0, hi, hz0, hz1, hz2⟩ := info_parts Tryz.info3
  obtain ⟨j0, hj, jz0, jz1, jz2⟩ := info_parts (show (Tryz.prog.info? 9).map (fun i => (i.zero, i.size, i.bytes)) = some (some (.string ⟨#[]⟩), 1, 16) by kernel_rfl)
  have hcut := run_cutTo0 (P := Tryz.prog) 23 3 i0 1 Tryz.underlying23 hi hz1 ao xs.length cap L (by omega) hnone
  have hitoa := fun (x : Int) (hx : x ∈ xs) (w' : World) (hf : Fr no w w') => s_itoa x (h64 x hx).1 (h64 x hx).2 w' (hG.fr hf)
  have H : Hid (Rd w 1 (.slice ao xs.length cap) xs.length (xs.map (Value.int .i64))) := Lib.hid h
  have Hpos := Lib.hid hpos
  have Hitoa := Lib.hid hitoa
  have HL := Lib.hid hL
  have H64 := Lib.hid h64
  clear h h64 hpos hitoa hL hnone hi hz0 hz1 hz2
  refine calls_of_in (n := 4) free_wide (callsIn_of_wp_marks Tryz.func33 rfl trivial (wpIn_wide.2 ?_) rfl)
  simp only [Tryz.ntmps33, List.size_toArray, List.length_cons, List.length_nil, Nat.reduceAdd, Nat.reduceSub, Array.replicate_succ, Array.replicate_zero, List.push_toArray, List.append_toArray, List.nil_append, List.cons_append]
  have hal := vec_all ao xs.length cap (w.alloc (.cells #[.int .i64 0] 3))
  generalize hxn : xs.length = n at *
  have Hxn := Lib.hid hxn
  clear hxn
  go_wp2_with fail
  refine hal.mono ?_
  rintro e w2 ⟨rfl, hw2⟩
  have hsz : (w.alloc (.cells #[.int .i64 0] 3)).heap.size = w.heap.size + 1 := by simp
  rw [hsz]
  clear hal hsz
  have hI0 : TxI w (.slice ao n cap) n L (vallF xs 0) w2 := by
    refine ⟨0, HL.out, Hpos.out, ?_, ?_, ?_⟩ <;> rw [← hw2]
    · simp only [alloc_get, World.size_alloc, Nat.add_assoc]; simp
    · simp only [alloc_get, World.size_alloc, Nat.add_assoc]; simp
    · exact ((Fr.refl no w).alloc _).alloc _
  have hs2 : w.heap.size + 2 = w2.heap.size := by rw [← hw2]; simp
  have HI0 := Lib.hid hI0
  clear hw2 hI0 Hpos
  go_wp2
  refine (wpIn_wide (n := 3)).1 ?_
  refine wpIn_each (ls := vallF xs 0) rfl (by intro h; cases h) (gf := 63) (lb := #[.pointer (some ⟨w.heap.size + 1, 0, none⟩)]) rfl trivial (enters_of Tryz.func63 (by kernel_rfl) rfl)
    (all_iter (w.heap.size + 1) (.slice ao n cap) xs) (fun _ => rfl) (TxI w (.slice ao n cap) n L) (fun _ _ => False)
    ?hI ?hIx ?hPre HI0.out ?round ?done ?stop
  case hI => exact fun s W W' ⟨a, h1, h3, h4, h5, h6⟩ hb => ⟨a, h1, h3, hb.heap h4 rfl, hb.heap h5 rfl, hb.fr h6 (by omega)⟩
  case hIx => exact fun _ _ _ h _ => h
  case hPre => exact fun s W ⟨a, h1, h3, h4, h5, h6⟩ => ⟨cell_of_block h5 rfl, by have := H.out.fr h6 (fun _ _ _ f => f); rw [← Hxn.out] at this ⊢; exact this⟩
  case round =>
    rintro l W x s h
    gi_wp2
    refine ⟨Kb.refl _, fun l W' hb hl => ?_⟩
    obtain ⟨a, h1, h3, h4, h5, h6⟩ := h
    have g4 := hb.heap h4 rfl
    have g5 := hb.heap h5 rfl
    have g6 := hb.fr h6 (by omega)
    clear hb h4 h5 h6
    have c2 : W'.cell? ⟨w.heap.size, 0, none⟩ = some (.int .i64 (a : Int)) := cell_of_block g4 rfl
    have f2 : W'.frozen? ⟨w.heap.size, 0, none⟩ = false := frozen_of_block g4
    have hx0 : x.1 < n := h3 x (by simp)
    have hx1 : (x.1 : Int) ≤ 1000000 := by omega
    have G3 := Lib.hid h3
    have G4 := Lib.hid g4
    have G5 := Lib.hid g5
    have G6 := Lib.hid g6
    have H2 := Lib.hid h1
    clear h3 g4 g5 g6 h1
    gi_wp2
    refine ⟨Kb.setCell _ _ _, x.1 + 1, H2.out, fun y hy => G3.out y (by simp [hy]), ?_, ?_, G6.out.setCell (p := ⟨w.heap.size, 0, none⟩) (fun h => by simp at h) _⟩
    · exact heap_setC _ G4.out
    · exact (Below.heap_setCell _ _ _ _ (by simp)).trans G5.out
  case done =>
    rintro D W hD ⟨a, h1, h3, h4, h5, h6⟩ hd
    have e : a = L := h1
    subst e
    have c2 : W.cell? ⟨w.heap.size, 0, none⟩ = some (.int .i64 (a : Int)) := cell_of_block h4 rfl
    have G6 := Lib.hid h6
    have Hd := Lib.hid hd
    have hO0 : TxO W W (.slice none 0 0) xs 0 := Ow.nil (Fr.refl _ _) _ _
    have HO0 := Lib.hid hO0
    have hDW : D < W.heap.size := (Array.getElem?_eq_some_iff.1 hd).1
    clear h3 h4 h5 h6 hd h1 hO0
    go_wp2_with fail
    go_loopw [5, 18] (fun ov iv wr => ∃ (k : Nat) (bo : Option Addr) (bc : Nat), k ≤ a ∧ iv = .int .i64 k ∧ ov = .slice bo k bc ∧ Hid (TxO W wr (.slice bo k bc) xs k)) (fun _ iv _ => a - (intOf iv).toNat)
    case atStart => exact ⟨0, none, 0, Nat.zero_le _, rfl, rfl, HO0⟩
    case round =>
      obtain ⟨k, bo, bc, hk, rfl, rfl, hO⟩ := hrel
      generalize wr = V at *
      clear c2 HO0
      by_cases hlt : k < a
      · obtain ⟨g, off, c', he, _, _, hx⟩ := H.out.form (by omega)
        cases he
        obtain ⟨y, hy⟩ : ∃ y, xs[k]? = some y := ⟨xs[k]'(by rw [Hxn.out]; omega), by simp⟩
        have hyx := List.mem_of_getElem? hy
        have hc : w.cell? ⟨g, off + k, none⟩ = some (.int .i64 y) := hx k _ (by simp [hy])
        have hcv := (G6.out.trans' hO.out.fr).cell hc (fun f => f)
        have hkn : k < n := by omega
        have hit := Hitoa.out y hyx V (G6.out.trans' hO.out.fr)
        have htk : (xs.take (k + 1)).map (fun x => Value.string ⟨(Lib.itoa x).toArray⟩) = (xs.take k).map (fun x => Value.string ⟨(Lib.itoa x).toArray⟩) ++ [.string ⟨(Lib.itoa y).toArray⟩] := by
          rw [List.take_add_one, hy]; simp
        have Htk := Lib.hid htk
        obtain ⟨r, hr⟩ : ∃ r : ByteArray, ⟨(Lib.itoa y).toArray⟩ = r := ⟨_, rfl⟩
        rw [hr] at hit Htk
        have Hit := Lib.hid hit
        clear hx hy hyx hc hit htk hr
        go_wp2_with fail
        refine Hit.out.mono ?_
        rintro e w3 ⟨rfl, hf3⟩
        have HO3 := Lib.hid (hO.out.step hf3)
        clear hO hf3 hcv
        go_wp2_with (at_builtin; refine wpList_append_one w3 (.string r) 9 rfl _ _ 84 rfl 9 j0 (.string ⟨#[]⟩) 16 Tryz.underlying84 hj jz0 jz1 jz2 rfl _ k _ rfl HO3.out.sl rfl rfl (by unfold maxLen; omega) (by omega) ?_)
        intro ao4 cap4 w4 hs4 hf4 ho4 _
        have HO4 : Hid (TxO W w4 (.slice ao4 (k + 1) cap4) xs (k + 1)) := Lib.hid (by unfold TxO; rw [Htk.out]; exact HO3.out.app (by rw [List.map_take]; exact hs4) hf4 ho4)
        clear hs4 hf4 ho4 HO3
        go_wp2
        go_roundw
        case rel => exact ⟨k + 1, ao4, cap4, by omega, by go_num, rfl, HO4⟩
        case measure => simp [intOf]; omega
      · have hka : k = a := by omega
        subst hka
        have hjoin : Calls Tryz.prog 51 #[.slice bo k bc, .string ⟨#[32]⟩] V fun e w' => e = .returned (.string ⟨(wjoin ((xs.take k).map Lib.itoa)).toArray⟩) ∧ Fr no V w' := by
          have hl : (xs.take k).length = k := by rw [List.length_take, Hxn.out]; omega
          have hb : ((xs.take k).map fun x => (⟨(Lib.itoa x).toArray⟩ : ByteArray)).map (·.data.toList) = (xs.take k).map Lib.itoa := by rw [List.map_map]; rfl
          by_cases h0 : k = 0
          · subst h0
            exact (Tryz.strings_Join_none bo bc ⟨#[32]⟩ V).mono fun e w' ⟨he, hw⟩ => ⟨by rw [he]; rfl, by rw [hw]; exact Fr.refl _ _⟩
          · obtain ⟨g, off, c', he, hc1, hc2, hg0, hx, _⟩ := hO.out.form (by omega)
            cases he
            have hgl : g < V.heap.size := hO.out.sl.lt g rfl
            have hlen : (Lib.join (((xs.take k).map fun x => (⟨(Lib.itoa x).toArray⟩ : ByteArray)).map (·.data.toList)) [32]).length ≤ 140737488355328 := by
              rw [hb, wjoin_join]
              have := wjoin_len ((xs.take k).map Lib.itoa) (fun u hu => by
                obtain ⟨x, hx, rfl⟩ := List.mem_map.1 hu
                have := H64.out x (List.mem_of_mem_take hx)
                exact itoa_len x this.1 this.2)
              rw [List.length_map, hl] at this
              omega
            have h := Tryz.strings_Join g off bc ((xs.take k).map fun x => (⟨(Lib.itoa x).toArray⟩ : ByteArray)) ⟨#[32]⟩ V (fun j x hj => hx j _ (by
              rw [List.getElem?_map] at hj ⊢
              cases h2 : (xs.take k)[j]? with
              | none => rw [h2] at hj; cases hj
              | some y => rw [h2] at hj; simp at hj ⊢; rw [hj])) hgl (by rw [List.length_map, hl]; omega) (by rw [List.length_map, hl]; omega) hlen
            rw [List.length_map, hl, hb] at h
            refine h.mono fun e w' ⟨he, hb'⟩ => ⟨?_, Fr.of_below hb'⟩
            rw [he]
            have : (⟨#[32]⟩ : ByteArray).data.toList = [32] := rfl
            rw [this, wjoin_join]
        have HJ := Lib.hid hjoin
        have hv : vtext xs = 91 :: (wjoin ((xs.take k).map Lib.itoa) ++ [93]) := by unfold vtext; rw [HL.out]
        have hwl : (wjoin ((xs.take k).map Lib.itoa)).length ≤ 23000000 := by
          have := wjoin_len ((xs.take k).map Lib.itoa) (fun u hu => by
            obtain ⟨x, hx, rfl⟩ := List.mem_map.1 hu
            have := H64.out x (List.mem_of_mem_take hx)
            exact itoa_len x this.1 this.2)
          rw [List.length_map, List.length_take] at this
          omega
        obtain ⟨j, hj2⟩ : ∃ j, wjoin ((xs.take k).map Lib.itoa) = j := ⟨_, rfl⟩
        rw [hj2] at HJ hv hwl
        have Hv := Lib.hid hv
        obtain ⟨r, hr⟩ : ∃ r : ByteArray, (⟨j.toArray⟩ : ByteArray) = r := ⟨_, rfl⟩
        have hrs : r.size ≤ 23000000 := by rw [← hr]; show j.toArray.size ≤ _; simpa using hwl
        rw [hr] at HJ
        have HV := Lib.hid (G6.out.trans' hO.out.fr)
        have HDV := Lib.hid ((hO.out.fr.block D hDW (fun f => f)).trans Hd.out)
        have Hr := Lib.hid hr
        clear hv hjoin hj2 hO hr hwl
        go_wp2_with fail
        refine HJ.out.mono ?_
        rintro e w5 ⟨rfl, hf5⟩
        have HF5 := Lib.hid (HV.out.trans' hf5)
        have HD5 := Lib.hid ((hf5.block D (Array.getElem?_eq_some_iff.1 HDV.out).1 (fun f => f)).trans HDV.out)
        clear hf5
        go_wp2
        refine leaveOne D rfl HD5.out (fun Wf hbf => ?_)
        refine ⟨_, by simp [results, Tryz.results33, go_sem]; rfl, ?_, hbf.fr HF5.out (by omega)⟩
        rw [Hv.out, ← Hr.out]
        have e : ((⟨#[91]⟩ : ByteArray) ++ ⟨j.toArray⟩ ++ ⟨#[93]⟩) = ⟨(91 :: (j ++ [93])).toArray⟩ := by
          apply ByteArray.ext
          simp [ByteArray.data_append]
        rw [e]
  case stop => exact fun _ _ _ _ h _ => h.elim
end Go.Proofs.YtgcjnhocoklfbaaGreatDoor
