/- The walk of the law VecBack. -/
import Derived.Test.YtdepenibifbcpaaDoorVup
namespace Go.XL
open Go.RowKit Go.Shelf
set_option linter.unusedVariables false
set_option linter.unusedSimpArgs false
theorem vlast_go (xs : List Int) : ∀ (k a : Nat), ((vallF xs k).foldl (fun _ x => x.1 + 1) a = a ∧ ∀ x ∈ xs, x = 0) ∨
    (∃ j x, xs[j]? = some x ∧ x ≠ 0 ∧ (vallF xs k).foldl (fun _ x => x.1 + 1) a = k + j + 1 ∧ ∀ i y, j < i → xs[i]? = some y → y = 0) := by
  induction xs with
  | nil => intro k a; exact .inl ⟨rfl, by simp⟩
  | cons x xs ih =>
    intro k a
    rw [vallF]
    by_cases h : x = 0
    · rw [if_pos h]
      rcases ih (k + 1) a with ⟨h1, h2⟩ | ⟨j, y, h1, h2, h3, h4⟩
      · exact .inl ⟨h1, fun z hz => by
        rcases List.mem_cons.1 hz with rfl | hz
        · exact h
        · exact h2 z hz⟩
      · refine .inr ⟨j + 1, y, by simpa using h1, h2, by rw [h3]; omega, fun i z hi hz => ?_⟩
        cases i with
        | zero => omega
        | succ i => exact h4 i z (by omega) (by simpa using hz)
    · rw [if_neg h, List.foldl_cons]
      rcases ih (k + 1) (k + 1) with ⟨h1, h2⟩ | ⟨j, y, h1, h2, h3, h4⟩
      · refine .inr ⟨0, x, rfl, h, h1, fun i z hi hz => ?_⟩
        cases i with
        | zero => omega
        | succ i => exact h2 z (List.mem_of_getElem? (by simpa using hz))
      · refine .inr ⟨j + 1, y, by simpa using h1, h2, by rw [h3]; omega, fun i z hi hz => ?_⟩
        cases i with
        | zero => omega
        | succ i => exact h4 i z (by omega) (by simpa using hz)
/-- where a vector ends -/
theorem vlast_spec (xs : List Int) : (vlast xs = 0 ∨ ∃ x, xs[vlast xs - 1]? = some x ∧ x ≠ 0 ∧ 0 < vlast xs) ∧ ∀ j : Nat, vlast xs ≤ j → vget xs j = 0 := by
  have h := vlast_go xs 0 0
  have e : (vallF xs 0).foldl (fun _ x => x.1 + 1) 0 = vlast xs := rfl
  rw [e] at h
  rcases h with ⟨h1, h2⟩ | ⟨j, x, h1, h2, h3, h4⟩
  · refine ⟨.inl h1, fun i _ => ?_⟩
    rw [vget_nat]
    cases e : xs[i]? with
    | none => rfl
    | some y => exact h2 y (List.mem_of_getElem? e)
  · refine ⟨.inr ⟨x, by rw [h3, show 0 + j + 1 - 1 = j by omega]; exact h1, h2, by omega⟩, fun i hi => ?_⟩
    rw [vget_nat]
    cases e : xs[i]? with
    | none => rfl
    | some y => exact h4 i y (by omega) e
theorem vget_take (xs : List Int) (j : Nat) : vget (xs.take (vlast xs)) j = vget xs j := by
  by_cases h : j < vlast xs
  · rw [vget_nat, vget_nat, List.getElem?_take_of_lt h]
  · rw [(vlast_spec xs).2 j (by omega), vget_beyond]
    rw [List.length_take]; omega
theorem vcov_take (xs : List Int) : (vcov xs (xs.take (vlast xs)) && vcov (xs.take (vlast xs)) xs) = true := by
  rw [Bool.and_eq_true, vcov_all, vcov_all]
  exact ⟨fun j => by rw [vget_take]; exact Int.le_refl _, fun j => by rw [vget_take]; exact Int.le_refl _⟩
theorem wjoin_nil {ws : List (List UInt8)} (h : ∀ w ∈ ws, w ≠ []) (hne : ws ≠ []) : wjoin ws ≠ [] := by
  cases ws with
  | nil => exact absurd rfl hne
  | cons w ws =>
    cases ws with
    | nil => exact h w (by simp)
    | cons a b => rw [wjoin]; simp
theorem itoa_nat {x : Int} (h : 0 ≤ x) : Lib.itoa x = Lib.decDigits x.toNat := by unfold Lib.itoa; rw [if_neg (by omega)]
/-- a vector in words is read again as it was -/
theorem parse_text {xs : List Int} (hb : ∀ x ∈ xs, 0 ≤ x ∧ x ≤ 1048576) (hl : vlast xs ≤ 8) : vparse (vtext xs) = (xs.take (vlast xs), 0) := by
  obtain ⟨ws, hws⟩ : ∃ ws, (xs.take (vlast xs)).map Lib.itoa = ws := ⟨_, rfl⟩
  have hdg : ∀ w ∈ ws, digs w = true := fun w hw => by
    rw [← hws] at hw
    obtain ⟨x, hx, rfl⟩ := List.mem_map.1 hw
    rw [itoa_nat (hb x (List.mem_of_mem_take hx)).1]
    exact digs_decDigits _
  have e1 : (vtext xs).head? = some 91 := rfl
  have e2 : (vtext xs).tail = wjoin ws ++ [93] := by unfold vtext; rw [hws]; rfl
  unfold vparse
  rw [e2, if_pos ⟨e1, by simp⟩, List.dropLast_concat]
  by_cases h0 : vlast xs = 0
  · have : ws = [] := by rw [← hws, h0]; rfl
    rw [this, h0, if_pos (show wjoin [] = [] from rfl)]; rfl
  · have hlen : ws.length = vlast xs := by rw [← hws, List.length_map, List.length_take]; have := vlast_le xs; omega
    have hne : ws ≠ [] := fun e => h0 (by rw [← hlen, e]; rfl)
    rw [if_neg (wjoin_nil (fun w hw => by
      have := hdg w hw
      intro e
      rw [e] at this
      cases this) hne)]
    rw [wsplit_join ws hne (fun w hw => digs_no32 (hdg w hw))]
    unfold vwords
    rw [if_pos (List.all_eq_true.2 hdg)]
    obtain ⟨h1, _⟩ := vlast_spec xs
    rcases h1 with h1 | ⟨x, hx, hx0, hp⟩
    · exact absurd h1 h0
    · have hxb := hb x (List.mem_of_getElem? hx)
      have hgl : ws.getLast? = some (Lib.itoa x) := by
        rw [List.getLast?_eq_getElem?, hlen, ← hws, List.getElem?_map, List.getElem?_take_of_lt (by omega), hx]; rfl
      have hdv : ∀ y : Int, 0 ≤ y → (dval (Lib.itoa y) : Int) = y := fun y hy => by
        rw [itoa_nat hy, (decDigits_dig _).2.2.1]; omega
      rw [if_neg (by
        rw [hgl]
        intro e
        have e' : Lib.itoa x = [48] := Option.some.inj e
        have := hdv x hxb.1
        rw [e'] at this
        exact hx0 this.symm)]
      rw [if_pos (by
        rw [Bool.and_eq_true]
        refine ⟨List.all_eq_true.2 fun w hw => ?_, by simp; omega⟩
        rw [← hws] at hw
        obtain ⟨y, hy, rfl⟩ := List.mem_map.1 hw
        have hyb := hb y (List.mem_of_mem_take hy)
        rw [hdv y hyb.1]
        simp; omega)]
      congr 1
      rw [← hws, List.map_map]
      rw [show ((fun w => (dval w : Int)) ∘ Lib.itoa) = fun y => (dval (Lib.itoa y) : Int) from rfl]
      conv => rhs; rw [← List.map_id (xs.take (vlast xs))]
      exact List.map_congr_left fun y hy => hdv y (hb y (List.mem_of_mem_take hy)).1
theorem vbad_ok {xs : List Int} (hb : ∀ x ∈ xs, 0 ≤ x ∧ x ≤ 1048576) : vbad xs = 0 := by
  induction xs with
  | nil => rfl
  | cons x xs ih =>
    have := hb x (by simp)
    rw [vbad, if_neg (by omega), if_neg (by omega)]
    exact ih (fun y hy => hb y (by simp [hy]))
theorem vcheck_ok {xs : List Int} (hb : ∀ x ∈ xs, 0 ≤ x ∧ x ≤ 1048576) (hl : xs.length ≤ 8) : vcheck xs 8 = 0 := by
  unfold vcheck
  rw [if_neg (by omega), if_neg (by omega), if_neg (by omega)]
  exact vbad_ok hb
theorem vtext_len {xs : List Int} (h64 : I64s xs) : (vtext xs).length ≤ 23 * xs.length + 2 := by
  unfold vtext
  have h1 := wjoin_len ((xs.take (vlast xs)).map Lib.itoa) (fun w hw => by
    obtain ⟨x, hx, rfl⟩ := List.mem_map.1 hw
    have := h64 x (List.mem_of_mem_take hx)
    exact itoa_len x this.1 this.2)
  rw [List.length_map, List.length_take] at h1
  simp only [List.length_cons, List.length_append, List.length_nil]
  omega
end Go.XL
namespace Go.Proofs.YtdepenibifbcpaaDoor
open Go.RowKit Go.Shelf Go.XL Go.ChangeShapes Go.WideShapes Go.ChangeAt
set_option linter.unusedVariables false
set_option linter.unusedSimpArgs false
attribute [local go_sem] Oper.semAt_some
set_option maxRecDepth 100000 in
set_option maxHeartbeats 4000000 in
theorem vecBack_any (v1 : Value) (zs : List Int) (w : World) (hG : Gl w) (h1 : Rd w 1 v1 zs.length (zs.map (Value.int .u32))) (hz : ∀ x ∈ zs, 0 ≤ x ∧ x ≤ 4294967295) :
    Calls Tryd.prog 5 #[v1] w fun e w' => e = .returned (.bool true) ∧ Fr no w w' := by
  have hk := vknown w hG
  obtain ⟨o1, c1, rfl, k1, m1⟩ := h1.cap
  have H : Hid (Rd w 1 (.slice o1 zs.length c1) zs.length (zs.map (Value.int .u32))) := Lib.hid h1
  have Hz := Lib.hid hz
  have HG := Lib.hid hG
  obtain ⟨xs, hxs⟩ : ∃ xs, zs.map (fun z => z % 1048577) = xs := ⟨_, rfl⟩
  have hb : ∀ x ∈ xs, 0 ≤ x ∧ x ≤ 1048576 := fun x hx => by
    rw [← hxs] at hx
    obtain ⟨z, _, rfl⟩ := List.mem_map.1 hx
    omega
  have hln : xs.length = zs.length := by rw [← hxs, List.length_map]
  have Hb := Lib.hid hb
  have Hxs := Lib.hid hxs
  have Hln := Lib.hid hln
  obtain ⟨i0, hi, hz0, hz1, hz2⟩ := info_parts Tryd.info3
  clear h1 hz hG hb hxs hln
  generalize hn : zs.length = n at *
  have Hn := Lib.hid hn
  clear hn
  by_cases hs : n ≤ 8
  · go_enter Tryd.func5, Tryd.ntmps5
    go_wp2_with fail
    refine hk.mono ?_
    clear hk
    rintro e w1 ⟨rfl, hf1⟩
    have F1 := Lib.hid hf1
    clear hf1
    go_wp2_with fail
    go_loopw [3, 4] (fun ov iv wr => ∃ (k : Nat) (bo : Option Addr) (bc : Nat), k ≤ n ∧ iv = .int .i64 k ∧ ov = .slice bo k bc ∧ Hid (Ow w1 wr 3 1 (.slice bo k bc) k ((xs.take k).map (Value.int .i64)))) (fun _ iv _ => n - (intOf iv).toNat)
    case atStart => exact ⟨0, none, 0, Nat.zero_le _, rfl, rfl, Lib.hid (Ow.nil (Fr.refl _ _) _ _)⟩
    case round =>
      obtain ⟨k, bo, bc, hk, rfl, rfl, hO⟩ := hrel
      generalize wr = V at *
      by_cases hlt : k < n
      · obtain ⟨g, off, c', he, _, _, hx⟩ := H.out.form (by omega)
        cases he
        obtain ⟨y, hy⟩ : ∃ y, zs[k]? = some y := ⟨zs[k]'(by rw [Hn.out]; omega), by simp⟩
        obtain ⟨hy0, hy1⟩ := Hz.out y (List.mem_of_getElem? hy)
        have hcv : V.cell? ⟨g, off + k, none⟩ = some (.int .u32 y) := (F1.out.trans' hO.out.fr).cell (hx k _ (by simp [hy])) (fun f => f)
        have Htk : Hid ((xs.take (k + 1)).map (Value.int .i64) = (xs.take k).map (Value.int .i64) ++ [.int .i64 (y % 1048577)]) := Lib.hid (by rw [← Hxs.out, List.take_add_one, List.getElem?_map, hy]; simp)
        clear hx hy
        go_wp2_with (at_builtin; refine wpList_append_one V (.int .i64 (y % 1048577)) 3 rfl _ _ 30 rfl 3 i0 (.int .i64 0) 8 Tryd.underlying30 hi hz0 hz1 hz2 rfl _ k _ rfl hO.out.sl rfl rfl (by unfold maxLen; omega) (by omega) ?_)
        intro ao' cap' w' hs' hfr hor hkb
        have HO : Hid (Ow w1 w' 3 1 (.slice ao' (k + 1) cap') (k + 1) ((xs.take (k + 1)).map (Value.int .i64))) := Lib.hid (by rw [Htk.out]; exact hO.out.app (by rw [List.map_take]; exact hs') hfr hor)
        clear hs' hfr hor hkb hO hcv
        go_wp2
        go_roundw
        case rel => exact ⟨k + 1, ao', cap', by omega, by go_num, rfl, HO⟩
        case measure => simp [intOf]; omega
      · have hkn : k = n := by omega
        subst hkn
        have hO2 : IntsAt V (.slice bo k bc) xs := by
          have h := hO.out.rd
          rw [List.take_of_length_le (by rw [Hln.out]; exact Nat.le_refl _)] at h
          unfold IntsAt
          rw [Hln.out]
          exact h
        have X := Lib.hid hO2
        have FV := Lib.hid (F1.out.trans' hO.out.fr)
        have h64 : I64s xs := fun x hx => by have := Hb.out x hx; omega
        have hvl := vlast_le xs
        have hp := parse_text Hb.out (by have := Hln.out; omega)
        have hc1 := vec_text _ xs V hO2 h64 (by have := Hln.out; omega) (HG.out.fr FV.out)
        have htl := vtext_len h64
        obtain ⟨t, ht⟩ : ∃ t : ByteArray, ⟨(vtext xs).toArray⟩ = t := ⟨_, rfl⟩
        have hts : t.size ≤ 1048576 := by rw [← ht]; show (vtext xs).toArray.size ≤ _; simp; have := Hln.out; omega
        have htd : t.data.toList = vtext xs := by rw [← ht]
        rw [ht] at hc1
        rw [← htd] at hp
        have hsame := vcov_take xs
        have hck1 := vcheck_ok Hb.out (by have := Hln.out; omega)
        have hck2 : vcheck (xs.take (vlast xs)) 8 = 0 := vcheck_ok (fun x hx => Hb.out x (List.mem_of_mem_take hx)) (by rw [List.length_take]; have := Hln.out; omega)
        obtain ⟨ys, hys⟩ : ∃ ys, xs.take (vlast xs) = ys := ⟨_, rfl⟩
        rw [hys] at hp hsame hck2
        have Hp := Lib.hid hp
        have Hsame := Lib.hid hsame
        have Hck1 := Lib.hid hck1
        have Hck2 := Lib.hid hck2
        have Hc1 := Lib.hid hc1
        clear hO hO2 h64 hvl hp hc1 htl ht htd hsame hck1 hck2 hys
        go_wp2_with fail
        refine Hc1.out.mono ?_
        rintro e w2 ⟨rfl, hf2⟩
        have F2 := Lib.hid (FV.out.trans' hf2)
        replace X := Lib.hid (Rd.fr X.out hf2 (fun _ _ _ f => f))
        clear hf2 FV
        go_wp2_with fail
        have hc := vec_parse t w2 hts (HG.out.fr F2.out)
        rw [Hp.out] at hc
        refine hc.mono ?_
        clear hc
        rintro e w3 ⟨v', rfl, hm⟩
        obtain ⟨yo, yc, rfl, _, _, hy, hfd⟩ := hm.see
        have F3 := Lib.hid (F2.out.trans' hfd)
        replace X := Lib.hid (Rd.fr X.out hfd (fun _ _ _ f => f))
        have Y := Lib.hid hy
        have hX : IntsAt w3 (.slice bo k bc) xs := X.out
        have hsm := vec_same _ _ xs ys w3 hX Y.out
        rw [Hsame.out] at hsm
        have Hsm := Lib.hid hsm
        have hcc1 := fun (w' : World) (hf : Fr no w3 w') => vec_check (.slice bo k bc) xs 8 w' (Rd.fr hX hf (fun _ _ _ f => f))
        have hcc2 := fun (w' : World) (hf : Fr no w3 w') => vec_check (.slice yo ys.length yc) ys 8 w' (Rd.fr Y.out hf (fun _ _ _ f => f))
        rw [Hck1.out] at hcc1
        rw [Hck2.out] at hcc2
        have Hc3 := Lib.hid hcc1
        have Hc4 := Lib.hid hcc2
        clear hm hy hfd F2 hX hsm hcc1 hcc2
        go_wp2_with fail
        refine Hsm.out.mono ?_
        rintro e w' ⟨rfl, rfl⟩
        go_wp2_with fail
        refine (Hc3.out _ (Fr.refl _ _)).mono ?_
        rintro e w4 ⟨rfl, hf4⟩
        have F4 := Lib.hid hf4
        clear hf4
        go_wp2_with fail
        refine (Hc4.out _ F4.out).mono ?_
        rintro e w5 ⟨rfl, hf5⟩
        have F5 := Lib.hid ((F3.out.trans' F4.out).trans' hf5)
        clear hf5
        go_wp2
        go_ret
        exact ⟨rfl, F5.out⟩
  · go_enter Tryd.func5, Tryd.ntmps5
    go_wp2_with fail
    refine hk.mono ?_
    rintro e w1 ⟨rfl, hf1⟩
    have F1 := Lib.hid hf1
    clear hf1
    go_wp2
    go_ret
    exact ⟨rfl, F1.out⟩
set_option maxRecDepth 100000 in
theorem vecBack_row {H : Type} {enc : TypeId × Value → H} (v0 : Value) {d0 : DataW H} {p0 : List MemPlace} {base : Nat} (w : World) (hG : Gl w)
    (ok0 : Value.okWide Tryd.prog w .any base 36 v0) (h0 : DataW.Trod enc Tryd.prog w 0 (fun _ => true) true 36 v0 d0 p0) :
    Calls Tryd.prog 5 #[v0] w fun e w' => e = .returned (.bool true) ∧ Below w.heap.size w w' := by
  obtain ⟨a, ra, wa⟩ := ints_open (k := .u32) Tryd.underlying36 Tryd.underlying37 (by kernel_rfl) ok0 h0
  refine (vecBack_any v0 a w hG ra (fun x hx => bounds_u32 (wa x hx))).mono ?_
  rintro e w' ⟨he, hf⟩
  exact ⟨he, hf.below⟩
end Go.Proofs.YtdepenibifbcpaaDoor
