/- Laws of the token: tokens as the document's; which tokens and drafts may be. -/
import Derived.Test.YtdddgfienicaaaaTokG
namespace Go.XL
open Go.RowKit Go.Shelf
set_option linter.unusedVariables false
/-- what the laws' good tells -/
structure GoodP (own next : Int) (seen : List Int) (late l : List Dr) : Prop where
  n1 : late.length ≤ 40
  n2 : l.length ≤ 40
  n3 : seen.length ≤ 70
  tk : tcheck own next seen = 0
  nx : next ≤ 1073741824
  dr : ∀ d ∈ late ++ l, (0 ≤ d.s ∧ d.s < 8) ∧ vcheck d.dep 8 = 0 ∧ 0 ≤ d.q ∧ d.q ≤ 1048576
end Go.XL
namespace Go.Proofs.Ytdddgfienicaaaa
open Go.RowKit Go.Shelf Go.XL
set_option linter.unusedVariables false
set_option linter.unusedSimpArgs false
attribute [local go_sem] Oper.semAt_some

set_option maxHeartbeats 1000000 in
theorem lOf (own next : Int) (sv v : Value) (seen : List Int) (l : List Dr) (w : World) (hs : IntsAt w sv seen) (h : DrsAt w v l) (hd : ∀ d ∈ l, DrOk w d) (hn : l.length ≤ 1000) :
    Calls Try.prog 12 #[tkV own next sv v] w fun e w' => ∃ ao cap, e = .returned (tkV own next sv (.slice ao l.length cap)) ∧ Ow w w' 46 6 (.slice ao l.length cap) l.length (drCells l) := by
  obtain ⟨so, sc, rfl, _, _⟩ := hs.cap
  obtain ⟨vo, vc, rfl, _, _⟩ := Rd.cap h
  unfold tkV
  have hof : ∀ wc, Fr no w wc → Calls Try.prog 19 #[.slice vo l.length vc] wc fun e w' => ∃ ao cap, e = .returned (.slice ao l.length cap) ∧ Ow wc w' 46 6 (.slice ao l.length cap) l.length (drCells l) := fun wc hf => lOfDrafts _ l wc (Rd.fr h hf (fun _ _ _ f => f)) (fun d hm => Rd.fr (hd d hm) hf (fun _ _ _ f => f)) hn
  have Hof := Lib.hid hof
  clear hof h hd hs
  generalize l.length = n at *
  generalize seen.length = sn at *
  obtain ⟨w2, hw2⟩ : ∃ w2, (w.alloc (.cells #[.int .i64 own, .int .i64 next, .slice so sn sc, .slice vo n vc] 26)).alloc (.cells #[.int .i64 0, .int .i64 0, .slice none 0 0, .slice none 0 0] 34) = w2 := ⟨_, rfl⟩
  have hb1 : w2.heap[w.heap.size]? = some (.cells #[.int .i64 own, .int .i64 next, .slice so sn sc, .slice vo n vc] 26 (0, 0)) := by rw [← hw2]; simp only [alloc_get, World.size_alloc]; simp
  have hb2 : w2.heap[w.heap.size + 1]? = some (.cells #[.int .i64 0, .int .i64 0, .slice none 0 0, .slice none 0 0] 34 (0, 0)) := by rw [← hw2]; simp only [alloc_get, World.size_alloc]; simp
  have hf2 : Fr no w w2 := by rw [← hw2]; exact ((Fr.refl no w).alloc _).alloc _
  have hsz : w2.heap.size = w.heap.size + 2 := by rw [← hw2]; simp
  have HB1 := Lib.hid hb1
  have HB2 := Lib.hid hb2
  have HF2 := Lib.hid hf2
  have HW2 := Lib.hid hw2
  have Hsz := Lib.hid hsz
  clear hb1 hb2 hf2 hw2 hsz
  go_enter Try.func12, Try.ntmps12
  go_upto_region 1 with (fail)
  rw [HW2.out]
  clear HW2
  obtain ⟨Sg46_0, HSg46_0⟩ : ∃ S : World → Prop, Hid (S = (fun w' => w'.cell? ⟨w.heap.size, 0, none⟩ = some (.int .i64 own) ∧ w'.cell? ⟨w.heap.size, 1, none⟩ = some (.int .i64 next) ∧ w'.cell? ⟨w.heap.size, 2, none⟩ = some (.slice so sn sc) ∧ w'.cell? ⟨w.heap.size, 3, none⟩ = some (.slice vo n vc))) := ⟨_, Lib.hid rfl⟩
  obtain ⟨Sg46_1, HSg46_1⟩ : ∃ S : World → Prop, Hid (S = (fun _ => True)) := ⟨_, Lib.hid rfl⟩
  refine wp_heldp [10] (pickS [Sg46_0, Sg46_1]) (by kernel_rfl) ?_ (fun hHeld => ?_)
  · show Sg46_0 _; rw [HSg46_0.out]; have hb : w2.drew.heap[w.heap.size]? = _ := HB1.out; exact ⟨cell_of_block hb rfl, cell_of_block hb rfl, cell_of_block hb rfl, cell_of_block hb rfl⟩
  obtain ⟨wc, hwc⟩ : ∃ x, w2.drew = x := ⟨_, rfl⟩; rw [hwc] at hHeld; rw [hwc]; have HF : Hid (Fr no w2 wc) := (by rw [← hwc]; exact Lib.hid ((Fr.refl no w2).drewN 1)); clear hwc
  refine heldp_take (v := ?_) 0 0 rfl (by kernel_rfl) (.inl ⟨by rfl, ?_⟩) hHeld ?_
  rotate_left
  · intro w hSw; replace hSw : Sg46_0 w := hSw; rw [HSg46_0.out] at hSw; (try dsimp only at hSw); first | (go_simp; done) | (go_simp; with_reducible rfl)
  try simp only [Act.put, List.setIfInBounds_toArray, List.set_cons_zero, List.set_cons_succ]
  refine heldp_take (v := ?_) 1 0 rfl (by kernel_rfl) (.inl ⟨by rfl, ?_⟩) hHeld ?_
  rotate_left
  · intro w hSw; replace hSw : Sg46_0 w := hSw; rw [HSg46_0.out] at hSw; (try dsimp only at hSw); first | (go_simp; done) | (go_simp; with_reducible rfl)
  try simp only [Act.put, List.setIfInBounds_toArray, List.set_cons_zero, List.set_cons_succ]
  refine heldp_take (v := ?_) 2 0 rfl (by kernel_rfl) (.inl ⟨by rfl, ?_⟩) hHeld ?_
  rotate_left
  · intro w hSw; replace hSw : Sg46_0 w := hSw; rw [HSg46_0.out] at hSw; (try dsimp only at hSw); first | (go_simp; done) | (go_simp; with_reducible rfl)
  try simp only [Act.put, List.setIfInBounds_toArray, List.set_cons_zero, List.set_cons_succ]
  refine heldp_take (v := ?_) 3 0 rfl (by kernel_rfl) (.inl ⟨by rfl, ?_⟩) hHeld ?_
  rotate_left
  · intro w hSw; replace hSw : Sg46_0 w := hSw; rw [HSg46_0.out] at hSw; (try dsimp only at hSw); first | (go_simp; done) | (go_simp; with_reducible rfl)
  try simp only [Act.put, List.setIfInBounds_toArray, List.set_cons_zero, List.set_cons_succ]
  refine heldp_take (v := ?_) 4 0 rfl (by kernel_rfl) (.inl ⟨by rfl, ?_⟩) hHeld ?_
  rotate_left
  · intro w hSw; replace hSw : Sg46_0 w := hSw; rw [HSg46_0.out] at hSw; (try dsimp only at hSw); first | (go_simp; done) | (go_simp; with_reducible rfl)
  try simp only [Act.put, List.setIfInBounds_toArray, List.set_cons_zero, List.set_cons_succ]
  refine heldp_take (v := ?_) 5 0 rfl (by kernel_rfl) (.inl ⟨by rfl, ?_⟩) hHeld ?_
  rotate_left
  · intro w hSw; replace hSw : Sg46_0 w := hSw; rw [HSg46_0.out] at hSw; (try dsimp only at hSw); first | (go_simp; done) | (go_simp; with_reducible rfl)
  try simp only [Act.put, List.setIfInBounds_toArray, List.set_cons_zero, List.set_cons_succ]
  refine heldp_take (v := ?_) 6 0 rfl (by kernel_rfl) (.inl ⟨by rfl, ?_⟩) hHeld ?_
  rotate_left
  · intro w hSw; replace hSw : Sg46_0 w := hSw; rw [HSg46_0.out] at hSw; (try dsimp only at hSw); first | (go_simp; done) | (go_simp; with_reducible rfl)
  try simp only [Act.put, List.setIfInBounds_toArray, List.set_cons_zero, List.set_cons_succ]
  refine heldp_take (v := ?_) 7 0 rfl (by kernel_rfl) (.inl ⟨by rfl, ?_⟩) hHeld ?_
  rotate_left
  · intro w hSw; replace hSw : Sg46_0 w := hSw; rw [HSg46_0.out] at hSw; (try dsimp only at hSw); first | (go_simp; done) | (go_simp; with_reducible rfl)
  try simp only [Act.put, List.setIfInBounds_toArray, List.set_cons_zero, List.set_cons_succ]
  refine heldp_call 8 0 rfl (by kernel_rfl) (fun K hK => ?_)
  go_simp
  go_at_call 19
  refine (Hof.out wc (HF2.out.trans' HF.out)).mono ?_
  rintro e wd ⟨ao, cap, rfl, hO⟩
  have hne : ∀ g, (Value.slice ao n cap).ownBlock = some g → w.heap.size + 2 ≤ g := fun g hg => by have := hO.fresh g hg; have := HF.out.size; have := Hsz.out; omega
  have Hne := Lib.hid hne
  have HO := Lib.hid (hO.base (HF2.out.trans' HF.out))
  replace HF := Lib.hid (HF.out.trans' hO.fr)
  clear hO hne
  refine hK.out _ _ ?_ (fun hHeld' => ?_)
  · show Sg46_0 _; rw [HSg46_0.out]; have hb := HF.out.heap HB1.out (fun f => f); exact ⟨cell_of_block hb rfl, cell_of_block hb rfl, cell_of_block hb rfl, cell_of_block hb rfl⟩
  clear hK K hHeld
  have hHeld := hHeld'
  clear hHeld'
  try simp only [Act.put, List.setIfInBounds_toArray, List.set_cons_zero, List.set_cons_succ]
  refine heldp_take (v := ?_) 9 0 rfl (by kernel_rfl) (.inl ⟨by rfl, ?_⟩) hHeld ?_
  rotate_left
  · intro w hSw; replace hSw : Sg46_0 w := hSw; rw [HSg46_0.out] at hSw; (try dsimp only at hSw); first | (go_simp; done) | (go_simp; with_reducible rfl)
  try simp only [Act.put, List.setIfInBounds_toArray, List.set_cons_zero, List.set_cons_succ]
  refine heldp_call 10 1 rfl (by kernel_rfl) (fun K hK => ?_)
  rw [if_pos (by rfl)]
  obtain ⟨x1, x2, x3, x4, q1, q2, q3, q4, c1, c2, c3, c4, z1, z2, z3, z4, hb4, hf4⟩ := set4 (HF.out.heap HB2.out (fun f => f)) (.int .i64 own) (.int .i64 next) (.slice so sn sc) (.slice ao n cap)
  have T2 := Lib.hid hb4
  have HG : Hid (Ow w x4 46 6 (.slice ao n cap) n (drCells l)) := Lib.hid (HO.out.step' hf4 (fun g e => ⟨by omega, fun hg => by have := Hne.out g hg; omega⟩))
  clear hb4 hf4
  go_simp
  refine hK.out _ _ ?_ (fun hHeld' => ?_)
  · show Sg46_1 _; rw [HSg46_1.out]; trivial
  clear hK K hHeld
  have hHeld := hHeld'
  clear hHeld'
  try simp only [Act.put, List.setIfInBounds_toArray, List.set_cons_zero, List.set_cons_succ]
  refine heldp_done (by kernel_rfl) ?_
  try clear hHeld
  clear HSg46_0
  try clear Sg46_0
  clear HSg46_1
  try clear Sg46_1
  clear q1 q2 q3 q4 c1 c2 c3 c4 z1 z2 z3 z4
  go_wp2
  refine bodyPost_ret (v := .agg #[.int .i64 own, .int .i64 next, .slice so sn sc, .slice ao n cap]) ?_ rfl ⟨_, _, rfl, HG.out⟩
  have y0 := cell_of_block (j := 0) T2.out rfl
  have y1 := cell_of_block (j := 1) T2.out rfl
  have y2 := cell_of_block (j := 2) T2.out rfl
  have y3 := cell_of_block (j := 3) T2.out rfl
  simp [results, Try.results12, go_sem, y0, y1, y2, y3]

theorem l2Few (s q : Int) (dO : Option Addr) (dn dc : Nat) (key val : ByteArray) (w : World) :
    Calls Try.prog 29 #[.agg #[.int .i64 s, .int .i64 q, .slice dO dn dc, .string key, .string val]] w fun e w' => ∃ b, e = .returned (.bool b) ∧ Fr no w w' := by
  have hf : ∀ c, Fr no w (w.alloc c) := fun c => (Fr.refl no w).alloc _
  have HF := Lib.hid hf
  clear hf
  by_cases h1 : dn ≤ 70
  · by_cases h2 : key.size ≤ 50
    · go_enter Try.func29, Try.ntmps29
      go_wp2
      go_ret
      first | exact ⟨decide ((val.size : Int) ≤ 50), rfl, HF.out _⟩ | exact ⟨false, rfl, HF.out _⟩ | exact ⟨.inl rfl, HF.out _⟩
    · go_enter Try.func29, Try.ntmps29
      go_wp2
      go_ret
      first | exact ⟨decide ((val.size : Int) ≤ 50), rfl, HF.out _⟩ | exact ⟨false, rfl, HF.out _⟩ | exact ⟨.inl rfl, HF.out _⟩
  · go_enter Try.func29, Try.ntmps29
    go_wp2
    go_ret
    first | exact ⟨decide ((val.size : Int) ≤ 50), rfl, HF.out _⟩ | exact ⟨false, rfl, HF.out _⟩ | exact ⟨.inl rfl, HF.out _⟩

theorem lFew (v : Value) (l : List Dr) (w : World) (h : DrsAt w v l) (hd : ∀ d ∈ l, DrOk w d) :
    Calls Try.prog 9 #[v] w fun e w' => ∃ b, e = .returned (.bool b) ∧ (b = true → l.length ≤ 40) ∧ Fr no w w' := by
  obtain ⟨vo, vc, rfl, hvc, hvm⟩ := h.cap
  have H : Hid (Rd w 6 (.slice vo l.length vc) l.length (drCells l)) := Lib.hid h
  have Hd := Lib.hid hd
  clear h hd
  generalize hm : l.length = n at *
  have Hm := Lib.hid hm
  clear hm
  go_enter Try.func9, Try.ntmps9
  by_cases h40 : 40 < n
  · go_wp2
    go_ret
    exact ⟨_, rfl, fun h => (by cases h), Fr.refl _ _⟩
  · go_wp2_with fail
    go_loopw [3] (fun iv wr => ∃ i : Nat, i ≤ n ∧ iv = .int .i64 i ∧ Hid (Fr no w wr)) (fun iv _ => n - (intOf iv).toNat)
    case atStart => exact ⟨0, Nat.zero_le _, rfl, Lib.hid (Fr.refl _ _)⟩
    case round =>
      obtain ⟨i, hi, rfl, hF⟩ := hrel
      generalize wr = W at *
      by_cases hlt : i < n
      · obtain ⟨d, hdk⟩ : ∃ x, l[i]? = some x := ⟨l[i]'(by rw [Hm.out]; exact hlt), by simp⟩
        have hdo := Hd.out d (List.mem_of_getElem? hdk)
        obtain ⟨g, off, c', he, e0, e1, e2, e3, e4, e5⟩ := drs_cells (w := W) (v := .slice vo n vc) (l := l) (by have h := H.out; show Rd W 6 _ l.length _; rw [Hm.out]; exact Rd.fr h hF.out (fun _ _ _ f => f)) hdk
        rw [Hm.out] at he
        cases he
        obtain ⟨dt, ds, dq, dv, dep, dk, dx⟩ := d
        obtain ⟨dO, dc, hdv, _, _⟩ := Rd.cap hdo
        dsimp only at *
        subst hdv
        clear hdk hdo
        go_wp2_with fail
        refine (l2Few ds dq dO dep.length dc dk dx W).mono ?_
        rintro e w3 ⟨b, rfl, hf3⟩
        have HF3 := Lib.hid (hF.out.trans' hf3)
        clear hf3 hF e0 e1 e2 e3 e4 e5
        cases b
        · go_wp2
          go_ret
          exact ⟨_, rfl, fun h => (by cases h), HF3.out⟩
        · go_wp2
          go_roundw
          case rel => exact ⟨i + 1, by omega, by go_num, HF3⟩
          case measure => simp [intOf]; omega
      · go_wp2
        go_ret
        exact ⟨_, rfl, fun _ => by omega, hF.out⟩

theorem vbad_drop {xs : List Int} {k : Nat} {x : Int} (h : xs[k]? = some x) : vbad (xs.drop k) = if x < 0 then 1 else if 1048576 < x then 4 else vbad (xs.drop (k + 1)) := by
  obtain ⟨hk, hx⟩ := List.getElem?_eq_some_iff.1 h
  rw [List.drop_eq_getElem_cons hk, hx]
  rfl

theorem ref_check (v : Value) (xs : List Int) (sites : Int) (w : World) (h : IntsAt w v xs) :
    Calls Try.prog 31 #[v, .int .i64 sites] w fun e w' => e = .returned (.int .i64 (vcheck xs sites)) ∧ w = w' := by
  obtain ⟨ao, cap, rfl, hcap, hmx⟩ := h.cap
  have H : Hid (Rd w 1 (.slice ao xs.length cap) xs.length (xs.map (Value.int .i64))) := Lib.hid h
  clear h
  have hv : ∀ r, (if sites < 1 then 1 else if 8 < sites then 1 else if sites < xs.length then 4 else vbad xs) = r → Hid (vcheck xs sites = r) := fun r h => Lib.hid h
  generalize hn : xs.length = n at *
  have Hn := Lib.hid hn
  clear hn
  go_enter Try.func31, Try.ntmps31
  by_cases h1 : sites < 1
  · have R := hv 1 (by rw [if_pos h1])
    clear hv
    rw [R.out]
    go_wp2
    go_ret
    exact ⟨rfl, rfl⟩
  · by_cases h2 : 8 < sites
    · have R := hv 1 (by rw [if_neg h1, if_pos h2])
      clear hv
      rw [R.out]
      go_wp2
      go_ret
      exact ⟨rfl, rfl⟩
    · by_cases h3 : sites < n
      · have R := hv 4 (by rw [if_neg h1, if_neg h2, if_pos h3])
        clear hv
        rw [R.out]
        go_wp2
        go_ret
        exact ⟨rfl, rfl⟩
      · have R := hv (vbad xs) (by rw [if_neg h1, if_neg h2, if_neg h3])
        clear hv
        obtain ⟨r, hr⟩ : ∃ r, vcheck xs sites = r := ⟨_, rfl⟩
        rw [R.out] at hr
        rw [R.out, hr]
        have Hr := Lib.hid hr
        clear hr R
        go_wp2_with fail
        go_loopw [5] (fun iv wr => ∃ i : Nat, i ≤ n ∧ iv = .int .i64 i ∧ w = wr ∧ Hid (vbad (xs.drop i) = r)) (fun iv _ => n - (intOf iv).toNat)
        case atStart => exact ⟨0, Nat.zero_le _, rfl, rfl, Hr⟩
        case round =>
          obtain ⟨i, hi, rfl, rfl, hB⟩ := hrel
          by_cases hlt : i < n
          · obtain ⟨x, hx⟩ : ∃ x, xs[i]? = some x := ⟨xs[i]'(by rw [Hn.out]; exact hlt), by simp⟩
            obtain ⟨g, off, c', he, _, _, hcell⟩ := H.out.form (by omega)
            cases he
            have hc := hcell i (.int .i64 x) (by simp [hx])
            have hb := hB.out
            rw [vbad_drop hx] at hb
            have Hb := Lib.hid hb
            clear hb hx hcell hB
            by_cases h4 : x < 0
            · have hb := Hb.out
              rw [if_pos h4] at hb
              subst hb
              go_wp2
              go_ret
              exact ⟨rfl, rfl⟩
            · by_cases h5 : 1048576 < x
              · have hb := Hb.out
                rw [if_neg h4, if_pos h5] at hb
                subst hb
                go_wp2
                go_ret
                exact ⟨rfl, rfl⟩
              · have hb := Hb.out
                rw [if_neg h4, if_neg h5] at hb
                have Hb2 := Lib.hid hb
                clear hb Hb
                go_wp2
                go_roundw
                case rel => exact ⟨i + 1, by omega, by go_num, trivial, Hb2⟩
                case measure => simp [intOf]; omega
          · have hb := hB.out
            rw [List.drop_eq_nil_of_le (by rw [Hn.out]; omega)] at hb
            have hb0 : (0 : Int) = r := hb
            subst hb0
            clear hb hB
            go_wp2
            go_ret
            exact ⟨rfl, rfl⟩

theorem ref_checkToken (own next : Int) (sv lv : Value) (seen : List Int) (w : World) (hs : IntsAt w sv seen) (lo : Option Addr) (ll lc : Nat) (hlv : lv = .slice lo ll lc) :
    Calls Try.prog 11 #[tkV own next sv lv] w fun e w' => e = .returned (.int .i64 (tcheck own next seen)) ∧ Fr no w w' := by
  obtain ⟨so, sc, rfl, _, _⟩ := hs.cap
  subst hlv
  have hf : ∀ c, Fr no w (w.alloc c) := fun c => (Fr.refl no w).alloc _
  have HF := Lib.hid hf
  have Hch := Lib.hid (fun (w' : World) (h : Fr no w w') => ref_check (.slice so seen.length sc) seen 8 w' (hs.fr h (fun _ _ _ f => f)))
  have hm : ∀ t, (if own < 0 then 1 else if own ≥ 8 then 1 else if next < 0 then 1 else vcheck seen 8) = t → Hid (tcheck own next seen = t) := fun t h => Lib.hid h
  clear hf hs
  generalize seen.length = sn at *
  unfold tkV
  go_enter Try.func11, Try.ntmps11
  by_cases h1 : own < 0
  · have R := hm 1 (by rw [if_pos h1])
    clear hm
    rw [R.out]
    go_wp2
    go_ret
    exact ⟨rfl, HF.out _⟩
  · by_cases h2 : 8 ≤ own
    · have R := hm 1 (by rw [if_neg h1, if_pos h2])
      clear hm
      rw [R.out]
      go_wp2
      go_ret
      exact ⟨rfl, HF.out _⟩
    · by_cases h3 : next < 0
      · have R := hm 1 (by rw [if_neg h1, if_neg h2, if_pos h3])
        clear hm
        rw [R.out]
        go_wp2
        go_ret
        exact ⟨rfl, HF.out _⟩
      · have R := hm (vcheck seen 8) (by rw [if_neg h1, if_neg h2, if_neg h3])
        clear hm
        rw [R.out]
        go_wp2_with fail
        refine (Hch.out _ (HF.out _)).mono ?_
        rintro e w2 ⟨rfl, rfl⟩
        go_wp2
        go_ret
        exact ⟨rfl, HF.out _⟩
end Go.Proofs.Ytdddgfienicaaaa
