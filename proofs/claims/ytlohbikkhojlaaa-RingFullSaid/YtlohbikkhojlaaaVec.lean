/- Contracts of the package vec: Get, With, Join, Meet, Covers, Same. -/
import Derived.Test.YtlohbikkhojlaaaRows
import Derived.Test.YtlohbikkhojlaaaOwn
import Derived.Test.YtlohbikkhojlaaaQuiet
namespace Go.XL
open Go.RowKit Go.Shelf
set_option linter.unusedVariables false
set_option linter.unusedSimpArgs false

/-- one of a vector -/
def vget (xs : List Int) (i : Int) : Int := if 0 ≤ i ∧ i < xs.length then xs[i.toNat]?.getD 0 else 0
/-- a vector with one put -/
def vwith (xs : List Int) (i n : Int) : List Int := if i < 0 ∨ 63 < i then xs else (xs ++ List.replicate (i.toNat + 1 - xs.length) 0).set i.toNat n
/-- place by place -/
def vboth (g : Int → Int → Int) (a b : List Int) : List Int := (List.range (max a.length b.length)).map fun i : Nat => g (vget a i) (vget b i)
def vcov (a b : List Int) : Bool := (List.range (max a.length b.length)).all fun i : Nat => decide (vget b i ≤ vget a i)
theorem vget_nat (xs : List Int) (k : Nat) : vget xs k = xs[k]?.getD 0 := by
  unfold vget
  by_cases h : k < xs.length
  · rw [if_pos ⟨by omega, by omega⟩]; simp
  · rw [if_neg (by omega)]; simp [List.getElem?_eq_none (by omega : xs.length ≤ k)]
/-- v is a slice of the numbers xs -/
abbrev IntsAt (w : World) (v : Value) (xs : List Int) : Prop := Rd w 1 v xs.length (xs.map (Value.int .i64))
/-- .. made since w -/
abbrev Made (E : TypeId) (w w' : World) (v : Value) (xs : List Int) : Prop := Ow w w' E 1 v xs.length (xs.map (Value.int .i64))
end Go.XL
namespace Go.Proofs.Ytlohbikkhojlaaa
open Go.RowKit Go.Shelf Go.XL
set_option linter.unusedVariables false
set_option linter.unusedSimpArgs false
attribute [local go_sem] Oper.semAt_some
theorem Try.info3 : (Try.prog.info? 3).map (fun i => (i.zero, i.size, i.bytes)) = some (some (.int .i64 0), 1, 8) := by kernel_rfl

set_option maxRecDepth 100000 in
set_option maxHeartbeats 400000 in
theorem vec_get (v : Value) (xs : List Int) (i : Int) (w : World) (h : IntsAt w v xs) :
    Calls Try.prog 47 #[v, .int .i64 i] w fun e w' => e = .returned (.int .i64 (vget xs i)) ∧ w = w' := by
  obtain ⟨ao, cap, rfl, hcap, hmx⟩ := h.cap
  have Hh := Lib.hid h
  clear h
  by_cases h1 : i < 0
  · have hv : vget xs i = 0 := by unfold vget; rw [if_neg (by omega)]
    rw [hv]
    go_enter Try.func47, Try.ntmps47
    go_wp2
    go_ret
    exact ⟨rfl, rfl⟩
  · by_cases h2 : (xs.length : Int) ≤ i
    · have hv : vget xs i = 0 := by unfold vget; rw [if_neg (by omega)]
      rw [hv]
      go_enter Try.func47, Try.ntmps47
      go_wp2
      go_ret
      exact ⟨rfl, rfl⟩
    · obtain ⟨k, rfl⟩ : ∃ k : Nat, i = k := ⟨i.toNat, by omega⟩
      obtain ⟨g, off, c, he, _, _, hx⟩ := Hh.out.form (by omega)
      cases he
      have hk : k < xs.length := by omega
      obtain ⟨x, hxk⟩ : ∃ x, xs[k]? = some x := ⟨xs[k], by simp [hk]⟩
      have hc : w.cell? ⟨g, off + k, none⟩ = some (.int .i64 x) := hx k _ (by simp [hxk])
      have hv : vget xs k = x := by rw [vget_nat, hxk]; rfl
      rw [hv]
      clear hx hv hxk
      generalize xs.length = n at *
      go_enter Try.func47, Try.ntmps47
      go_wp2
      go_ret
      exact ⟨rfl, rfl⟩

set_option maxRecDepth 100000 in
set_option maxHeartbeats 400000 in
theorem vec_clone (v : Value) (xs : List Int) (w : World) (h : IntsAt w v xs) (hn : xs.length * 8 ≤ 140737488355328) :
    Calls Try.prog 32 #[v] w fun e w' => ∃ ao' cap', e = .returned (.slice ao' xs.length cap') ∧ Made 3 w w' (.slice ao' xs.length cap') xs := by
  obtain ⟨ao, cap, rfl, hcap, hm⟩ := h.cap
  have h1 := @Lib.run_eql_slice_nil Try.prog
  cases ao with
  | none =>
    have h0 : xs.length = 0 := by
      obtain ⟨_, ao, cap', he, _, _, hz, _⟩ := h
      cases he
      have := hz rfl
      omega
    obtain rfl : xs = [] := List.eq_nil_of_length_eq_zero h0
    go_enter Try.func32, Try.ntmps32
    go_wp2
    go_ret
    exact ⟨none, 0, rfl, Ow.nil (Fr.refl _ _) _ _⟩
  | some a =>
    obtain ⟨i0, hi, hz0, hz1, hz2⟩ := info_parts Try.info3
    have H := Lib.hid h
    clear h
    have hf : Fr no w (w.alloc (.cells #[] 3)) := (Fr.refl _ w).alloc _
    have hs0 : Sl (w.alloc (.cells #[] 3)) 3 1 (.slice (some ⟨w.heap.size, 0, none⟩) 0 0) 0 [] := ⟨by simp, _, 0, rfl, Nat.le_refl _, by simp [maxLen], ⟨by simp, fun a h => by cases h; simp⟩, fun h => absurd h (Nat.lt_irrefl _)⟩
    have Hs0 := Lib.hid hs0
    clear hs0
    go_enter Try.func32, Try.ntmps32
    go_wp2_with (at_builtin; refine wpList_append_all (w.alloc (.cells #[] 3)) rfl _ _ 30 rfl 3 i0 (.int .i64 0) 1 8 Try.underlying30 hi hz0 hz1 hz2 rfl (by decide) _ _ _ rfl Hs0.out _ _ _ rfl (H.out.fr hf (fun _ _ _ f => f)) (by simp [Value.oneCell']) (by unfold maxLen; omega) (by omega) ?_)
    intro ao' cap' w' hs' hfr hor hkb
    have Hs' := Lib.hid hs'
    have Hor := Lib.hid hor
    clear hs' hor h1
    go_wp2
    go_ret
    refine ⟨ao', cap', rfl, by simpa using Hs'.out, hf.trans hfr (fun k hk e => ?_), fun g hg => ?_⟩
    · simp [Value.ownBlock] at e; omega
    · rcases Hor.out with e | e
      · rw [e] at hg; simp [Value.ownBlock] at hg; omega
      · have := e g hg; omega

/-- With's slice: the vector, and noughts behind it -/
def WithI (w wr : World) (v : Value) (xs : List Int) (n k : Nat) : Prop := ∃ m : Nat, n = xs.length + m ∧ (m = 0 ∨ n ≤ k + 1) ∧ Ow w wr 3 1 v n ((xs ++ List.replicate m 0).map (Value.int .i64))

set_option maxRecDepth 100000 in
set_option maxHeartbeats 1000000 in
theorem vec_with (v : Value) (xs : List Int) (i x : Int) (w : World) (h : IntsAt w v xs) (hn : xs.length ≤ 1000000) :
    Calls Try.prog 49 #[v, .int .i64 i, .int .i64 x] w fun e w' => ∃ v', e = .returned v' ∧ Made 3 w w' v' (vwith xs i x) := by
  have hc := vec_clone v xs w h (by omega)
  obtain ⟨ao, cap, rfl, hcap, hm⟩ := h.cap
  clear h
  by_cases h1 : i < 0
  · have hv : vwith xs i x = xs := by unfold vwith; rw [if_pos (by omega)]
    rw [hv]
    go_enter Try.func49, Try.ntmps49
    go_wp2_with fail
    refine hc.mono ?_
    rintro e w' ⟨ao', cap', rfl, hmade⟩
    have Hm := Lib.hid hmade
    clear hc hmade
    go_wp2
    go_ret
    exact ⟨_, rfl, Hm.out⟩
  · by_cases h2 : 63 < i
    · have hv : vwith xs i x = xs := by unfold vwith; rw [if_pos (by omega)]
      rw [hv]
      go_enter Try.func49, Try.ntmps49
      go_wp2_with fail
      refine hc.mono ?_
      rintro e w' ⟨ao', cap', rfl, hmade⟩
      have Hm := Lib.hid hmade
      clear hc hmade
      go_wp2
      go_ret
      exact ⟨_, rfl, Hm.out⟩
    · obtain ⟨k, rfl⟩ : ∃ k : Nat, i = k := ⟨i.toNat, by omega⟩
      have hv : vwith xs k x = (xs ++ List.replicate (k + 1 - xs.length) 0).set k x := by unfold vwith; rw [if_neg (by omega)]; simp
      rw [hv]
      obtain ⟨i0, hi, hz0, hz1, hz2⟩ := info_parts Try.info3
      go_enter Try.func49, Try.ntmps49
      go_wp2_with fail
      refine hc.mono ?_
      rintro e w1 ⟨ao', cap', rfl, hmade⟩
      have hW : WithI w w1 (.slice ao' xs.length cap') xs xs.length k := ⟨0, rfl, .inl rfl, by simpa using hmade⟩
      have HW := Lib.hid hW
      clear hc hmade hv hW
      generalize hg : xs.length = L at *
      have Hg := Lib.hid hg
      clear hg
      have hk63 : (k : Int) ≤ 63 := by omega
      go_wp2_with fail
      go_loopw [7] (fun a wr => ∃ (n : Nat) (bo : Option Addr) (bc : Nat), a = .slice bo n bc ∧ n ≤ 1000100 ∧ WithI w wr (.slice bo n bc) xs n k) (fun a _ => k + 1 - vlen a)
      case atStart => exact ⟨L, ao', cap', rfl, by omega, HW.out⟩
      case round =>
        obtain ⟨n, bo, bc, rfl, hn1, hM⟩ := hrel
        obtain ⟨m, hm1, hm2, hO⟩ := hM
        have hcapn := hO.cap
        have HO := Lib.hid hO
        have Hm1 := Lib.hid hm1
        have Hm2 := Lib.hid hm2
        obtain ⟨_, _, e, hcapn, hcapm⟩ := hcapn
        cases e
        clear hO HW hm1 hm2
        by_cases hlt : (n : Int) ≤ k
        · go_wp2_with (at_builtin; refine wpList_append_one wr (.int .i64 0) 3 rfl _ _ 30 rfl 3 i0 (.int .i64 0) 8 Try.underlying30 hi hz0 hz1 hz2 rfl _ n _ rfl HO.out.sl rfl rfl (by unfold maxLen; omega) (by omega) ?_)
          intro ao2 cap2 w2 hs2 hfr2 hor2 hkb2
          have hW : WithI w w2 (.slice ao2 (n + 1) cap2) xs (n + 1) k := ⟨m + 1, by rw [Hm1.out]; omega, .inr (by omega), HO.out.app (by have e : List.map (Value.int .i64) (xs ++ List.replicate (m + 1) 0) = xs.map (Value.int .i64) ++ (List.replicate m (Value.int .i64 0) ++ [Value.int .i64 0]) := (by simp [List.replicate_succ']); rw [e]; exact hs2) hfr2 hor2⟩
          have HW := Lib.hid hW
          clear hW hs2 hfr2 hor2 hkb2
          go_wp2
          go_roundw
          case rel => exact ⟨n + 1, ao2, cap2, rfl, by omega, HW.out⟩
          case measure => simp [vlen]; omega
        · obtain ⟨g, off, c, he, _, _, hg0, hx, hfz⟩ := HO.out.form (by omega)
          cases he
          have hlen := HO.out.sl.1
          obtain ⟨y, hy⟩ : ∃ y, ((xs ++ List.replicate m 0).map (Value.int .i64))[k]? = some y := ⟨_, List.getElem?_eq_getElem (by omega)⟩
          have hc := hx k y hy
          have hf := hfz (off + k)
          clear hx hfz hy hlen
          go_wp2
          go_ret
          refine ⟨_, rfl, ?_⟩
          have := HO.out.set k (by omega) (.int .i64 x)
          have e1 : m = k + 1 - xs.length := by have := Hm1.out; have := Hm2.out; have := Hg.out; omega
          have e2 : ((xs ++ List.replicate (k + 1 - xs.length) 0).set k x).length = n := by have := Hm1.out; have := Hg.out; simp; omega
          unfold Made
          rw [e2, List.map_set, ← e1]
          exact this

set_option maxRecDepth 100000 in
set_option maxHeartbeats 1000000 in
theorem vec_both (fn : FuncId) (g : Int → Int → Int) (hfn : ∀ (x y : Int) (w : World), Calls Try.prog fn #[.int .i64 x, .int .i64 y] w fun e w' => e = .returned (.int .i64 (g x y)) ∧ w = w') (hcf : ∀ (args : Array Value) (w : World), (callFunc fn args).run Try.prog w = .ok (.enter fn args) w)
    (v1 v2 : Value) (a b : List Int) (w : World) (h1 : IntsAt w v1 a) (h2 : IntsAt w v2 b) (hn1 : a.length ≤ 1000000) (hn2 : b.length ≤ 1000000) :
    Calls Try.prog 54 #[v1, v2, .func (.func fn) #[] #[]] w fun e w' => ∃ v', e = .returned v' ∧ Made 3 w w' v' (vboth g a b) := by
  obtain ⟨ao1, cap1, rfl, hc1, hm1⟩ := h1.cap
  obtain ⟨ao2, cap2, rfl, hc2, hm2⟩ := h2.cap
  obtain ⟨N, hN⟩ : ∃ N : Nat, max a.length b.length = N := ⟨_, rfl⟩
  have hNi : max (a.length : Int) b.length = N := by omega
  have H1 := Lib.hid h1
  have H2 := Lib.hid h2
  clear h1 h2
  obtain ⟨i0, hi, hz0, hz1, hz2⟩ := info_parts Try.info3
  go_enter Try.func54, Try.ntmps54
  go_wp2_with fail
  all_goals first | rw [show (b.length : Int) = N by omega] | rw [show (a.length : Int) = N by omega]
  all_goals
    clear hNi
    go_loopw [7, 14] (fun o jv wr => ∃ (j : Nat) (bo : Option Addr) (bc : Nat), j ≤ N ∧ jv = .int .i64 j ∧ o = .slice bo j bc ∧ Ow w wr 3 1 (.slice bo j bc) j ((List.range j).map fun i : Nat => .int .i64 (g (vget a i) (vget b i)))) (fun _ jv _ => N - (intOf jv).toNat)
    case atStart => exact ⟨0, none, 0, Nat.zero_le _, rfl, rfl, Ow.nil (Fr.refl _ _) _ _⟩
    case round =>
      obtain ⟨j, bo, bc, hj, rfl, rfl, hO⟩ := hrel
      have HO := Lib.hid hO
      clear hO
      by_cases hlt : j < N
      · go_wp2_with fail
        refine (vec_get _ a j wr (H1.out.fr HO.out.fr (fun _ _ _ f => f))).mono ?_
        rintro e w' ⟨rfl, rfl⟩
        go_wp2_with fail
        refine (vec_get _ b j wr (H2.out.fr HO.out.fr (fun _ _ _ f => f))).mono ?_
        rintro e w' ⟨rfl, rfl⟩
        go_wp2_with fail
        refine (hfn _ _ _).mono ?_
        rintro e w' ⟨rfl, rfl⟩
        go_wp2_with (at_builtin; refine wpList_append_one wr (.int .i64 (g (vget a j) (vget b j))) 3 rfl _ _ 30 rfl 3 i0 (.int .i64 0) 8 Try.underlying30 hi hz0 hz1 hz2 rfl _ j _ rfl HO.out.sl rfl rfl (by unfold maxLen; omega) (by omega) ?_)
        intro ao2 cap2 w2 hs2 hfr2 hor2 hkb2
        have hW : Ow w w2 3 1 (.slice ao2 (j + 1) cap2) (j + 1) ((List.range (j + 1)).map fun i : Nat => .int .i64 (g (vget a i) (vget b i))) := HO.out.app (by rw [List.range_succ, List.map_append]; exact hs2) hfr2 hor2
        have HW := Lib.hid hW
        clear hW hs2 hfr2 hor2 hkb2
        go_wp2
        go_roundw
        case rel => exact ⟨j + 1, ao2, cap2, by omega, by go_num, rfl, HW.out⟩
        case measure => simp [intOf]; omega
      · obtain rfl : j = N := by omega
        go_wp2
        go_ret
        have e1 : (vboth g a b).length = j := by simp [vboth, hN]
        refine ⟨_, rfl, ?_⟩
        unfold Made
        rw [e1, vboth, hN, List.map_map]
        exact HO.out

theorem vec_max (x y : Int) (w : World) : Calls Try.prog 55 #[.int .i64 x, .int .i64 y] w fun e w' => e = .returned (.int .i64 (max x y)) ∧ w = w' := by
  go_enter Try.func55, Try.ntmps55
  go_wp2
  all_goals go_ret
  all_goals exact ⟨by go_num, rfl⟩
theorem vec_join (v1 v2 : Value) (a b : List Int) (w : World) (h1 : IntsAt w v1 a) (h2 : IntsAt w v2 b) (hn1 : a.length ≤ 1000000) (hn2 : b.length ≤ 1000000) :
    Calls Try.prog 35 #[v1, v2] w fun e w' => ∃ v', e = .returned v' ∧ Made 3 w w' v' (vboth max a b) := by
  have hb := vec_both 55 max vec_max (fun _ _ => by kernel_rfl) v1 v2 a b w h1 h2 hn1 hn2
  go_enter Try.func35, Try.ntmps35
  go_wp2_with fail
  refine hb.mono ?_
  rintro e w' ⟨v', rfl, hm⟩
  have Hm := Lib.hid hm
  clear hm hb
  go_wp2
  go_ret
  exact ⟨_, rfl, Hm.out⟩
/-- up to i the one covers the other -/
def covTo (a b : List Int) (i : Nat) : Prop := ∀ j : Nat, j < i → vget b j ≤ vget a j
theorem vcov_iff (a b : List Int) : vcov a b = true ↔ covTo a b (max a.length b.length) := by
  unfold vcov covTo; rw [List.all_eq_true]; simp

set_option maxRecDepth 100000 in
set_option maxHeartbeats 400000 in
theorem vec_covers (v1 v2 : Value) (a b : List Int) (w : World) (h1 : IntsAt w v1 a) (h2 : IntsAt w v2 b) :
    Calls Try.prog 48 #[v1, v2] w fun e w' => e = .returned (.bool (vcov a b)) ∧ w = w' := by
  obtain ⟨ao1, cap1, rfl, hc1, hm1⟩ := h1.cap
  obtain ⟨ao2, cap2, rfl, hc2, hm2⟩ := h2.cap
  obtain ⟨N, hN⟩ : ∃ N : Nat, max a.length b.length = N := ⟨_, rfl⟩
  have hv := vcov_iff a b
  rw [hN] at hv
  have H1 := Lib.hid h1
  have H2 := Lib.hid h2
  have Hv := Lib.hid hv
  clear h1 h2 hv
  go_enter Try.func48, Try.ntmps48
  have hNb : (N : Int) ≤ 9223372036854775807 := by omega
  go_wp2_with fail
  all_goals first | rw [show (b.length : Int) = N by omega] | rw [show (a.length : Int) = N by omega]
  all_goals
    clear hN
    go_loop [11] (fun jv => ∃ (j : Nat), j ≤ N ∧ jv = .int .i64 j ∧ Hid (covTo a b j)) (fun jv => N - (intOf jv).toNat)
    case atStart => exact ⟨0, Nat.zero_le _, rfl, Lib.hid (fun j h => by omega)⟩
    case round =>
      obtain ⟨j, hj, rfl, hC⟩ := hrel
      by_cases hlt : j < N
      · go_wp2_with fail
        refine (vec_get _ a j _ H1.out).mono ?_
        rintro e w' ⟨rfl, rfl⟩
        go_wp2_with fail
        refine (vec_get _ b j _ H2.out).mono ?_
        rintro e w' ⟨rfl, rfl⟩
        by_cases hcm : vget a j < vget b j
        · go_wp2
          go_ret
          have e1 : vcov a b = false := by
            rw [← Bool.not_eq_true, Hv.out]; intro h; have := h j hlt; omega
          rw [e1]
          exact ⟨rfl, rfl⟩
        · go_wp2
          go_round
          case rel => exact ⟨j + 1, by omega, by go_num, Lib.hid (fun t ht => by rcases Nat.lt_succ_iff_lt_or_eq.1 ht with h | rfl <;> first | exact hC.out t h | omega)⟩
          case measure => simp [intOf]; omega
      · obtain rfl : j = N := by omega
        go_wp2
        go_ret
        have e1 : vcov a b = true := Hv.out.2 hC.out
        rw [e1]
        exact ⟨rfl, rfl⟩
end Go.Proofs.Ytlohbikkhojlaaa
