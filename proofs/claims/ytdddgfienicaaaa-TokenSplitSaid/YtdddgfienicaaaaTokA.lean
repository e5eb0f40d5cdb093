/- The document's token: without, gone. -/
import Derived.Test.YtdddgfienicaaaaTokS2
namespace Go.XL
open Go.RowKit Go.Shelf
set_option linter.unusedVariables false
set_option linter.unusedSimpArgs false
theorem Rd.cutFrom {w : World} {size : Nat} {v : Value} {n : Nat} {xs : List Value} (h : Rd w size v n xs) {k : Nat} (hk : k ≤ n) : Rd w size (cutFrom size v k) (n - k) (xs.drop (k * size)) := by
  obtain ⟨hl, ao, cap, rfl, hn, hm, hz, hc⟩ := h
  have h2 : (n - k) * size = n * size - k * size := Nat.sub_mul _ _ _
  refine ⟨by rw [List.length_drop, hl, h2], _, cap - k, rfl, by omega, by omega, fun h => ?_, fun h0 => ?_⟩
  · split at h
    · omega
    · cases ao with
      | none => have := hz rfl; omega
      | some _ => simp at h
  · obtain ⟨g, off, rfl, hx⟩ := hc (by omega)
    rw [if_neg (by omega)]
    refine ⟨g, off + k * size, by simp [Addr.add_lit], fun j u hj => ?_⟩
    rw [List.getElem?_drop] at hj
    have := hx _ u hj
    rwa [← Nat.add_assoc] at this
theorem Rd.cutTo {w : World} {size : Nat} {ao : Option Addr} {cap n : Nat} {xs : List Value} (h : Rd w size (.slice ao n cap) n xs) {k : Nat} (hk : k ≤ n) : Rd w size (.slice ao k cap) k (xs.take (k * size)) := by
  obtain ⟨hl, ao', cap', he, hn, hm, hz, hc⟩ := h
  cases he
  have h2 : k * size ≤ n * size := Nat.mul_le_mul_right _ hk
  refine ⟨by rw [List.length_take, hl]; omega, _, cap, rfl, by omega, hm, hz, fun h0 => ?_⟩
  obtain ⟨g, off, rfl, hx⟩ := hc (by omega)
  refine ⟨g, off, rfl, fun j u hj => ?_⟩
  rw [List.getElem?_take] at hj
  split at hj
  · exact hx j u hj
  · cases hj
/-- the document's gone: of all that is left ahead -/
def rgone (own : Int) (seen : List Int) (ahead : List Dr) (d : Dr) : Bool := if d.s = own then decide (d.q ≠ 0) else decide (d.q ≤ vget seen d.s) || ahead.any (fun x => decide (x.s = d.s) && decide (x.q = d.q))
def rlate (own : Int) (seen : List Int) : List Dr → List Dr → List Dr → List Dr
  | _, [], acc => acc
  | ahead, d :: r, acc => rlate own seen (ahead ++ [d]) r (if rgone own seen ahead d = true then acc else acc ++ [d])
theorem rlate_alate (own : Int) (seen : List Int) : ∀ (l ahead acc : List Dr), (∀ x ∈ acc, x ∈ ahead) → (∀ x ∈ ahead, x.s ≠ own → x.q ≤ vget seen x.s ∨ ∃ y ∈ acc, y.s = x.s ∧ y.q = x.q) → rlate own seen ahead l acc = alate own seen l acc
  | [], ahead, acc, _, _ => rfl
  | d :: r, ahead, acc, h1, h2 => by
    have hg : rgone own seen ahead d = dgone own seen d acc := by
      unfold rgone dgone
      split
      · rfl
      · rename_i hs
        rw [Bool.eq_iff_iff]
        simp only [Bool.or_eq_true, decide_eq_true_eq, List.any_eq_true, Bool.and_eq_true]
        constructor
        · rintro (h | ⟨x, hx, e1, e2⟩)
          · exact .inl h
          · rcases h2 x hx (by rw [e1]; exact hs) with h | ⟨y, hy, f1, f2⟩
            · left; rw [← e2, ← e1]; exact h
            · exact .inr ⟨y, hy, f1.trans e1, f2.trans e2⟩
        · rintro (h | ⟨x, hx, e⟩)
          · exact .inl h
          · exact .inr ⟨x, h1 x hx, e⟩
    rw [rlate, alate, hg]
    refine rlate_alate own seen r _ _ (fun x hx => ?_) (fun x hx hs => ?_)
    · split at hx
      · exact List.mem_append_left _ (h1 x hx)
      · rcases List.mem_append.1 hx with hx | hx
        · exact List.mem_append_left _ (h1 x hx)
        · exact List.mem_append_right _ hx
    · rcases List.mem_append.1 hx with hx | hx
      · rcases h2 x hx hs with h | ⟨y, hy, e⟩
        · exact .inl h
        · refine .inr ⟨y, ?_, e⟩
          split
          · exact hy
          · exact List.mem_append_left _ hy
      · simp at hx
        subst hx
        split
        · rename_i hgo
          unfold dgone at hgo
          rw [if_neg hs] at hgo
          simp only [Bool.or_eq_true, decide_eq_true_eq, List.any_eq_true, Bool.and_eq_true] at hgo
          rcases hgo with h | ⟨y, hy, e⟩
          · exact .inl h
          · exact .inr ⟨y, hy, e⟩
        · exact .inr ⟨x, by simp, rfl, rfl⟩
end Go.XL
namespace Go.Proofs.Ytdddgfienicaaaa
open Go.RowKit Go.Shelf Go.XL
set_option linter.unusedVariables false
set_option linter.unusedSimpArgs false
attribute [local go_sem] Oper.semAt_some

set_option maxHeartbeats 4000000 in
theorem ref_without (v : Value) (l : List Dr) (i : Nat) (w : World) (h : DrsAt w v l) (hd : ∀ d ∈ l, DrOk w d) (hi : i < l.length) (hn : l.length ≤ 1000) :
    Calls Try.prog 38 #[v, .int .i64 i] w fun e w' => ∃ ao cap, e = .returned (.slice ao (l.length - 1) cap) ∧ Ow w w' 46 6 (.slice ao (l.length - 1) cap) (l.length - 1) (drCells (l.eraseIdx i)) := by
  obtain ⟨g, off, cap, rfl, hcap, hmx, _⟩ := Rd.form h (by omega)
  have H : Hid (Rd w 6 (.slice (some ⟨g, off, none⟩) l.length cap) l.length (drCells l)) := Lib.hid h
  have hone : ∀ u ∈ drCells l, u.oneCell' = true := drCells_one hd
  have h1 : Rd w 6 (.slice (some ⟨g, off, none⟩) i cap) i ((drCells l).take (i * 6)) := Rd.cutTo h (by omega)
  have h2 := Rd.cutFrom h (k := i + 1) (by omega)
  obtain ⟨j0, hj0, jz0, jz1, jz2⟩ := info_parts (show (Try.prog.info? 46).map (fun i => (i.zero, i.size, i.bytes)) = some (some (.agg #[.int .i64 0, .int .i64 0, .int .i64 0, .slice none 0 0, .string ByteArray.empty, .string ByteArray.empty]), 6, 80) by kernel_rfl)
  have cTo := run_cutTo (P := Try.prog) 32 46 j0 6 Try.underlying32 hj0 jz1 ⟨g, off, none⟩ l.length cap i (by omega)
  obtain ⟨ao2, he2, c3, c4⟩ := run_cutFrom (P := Try.prog) 32 46 j0 6 Try.underlying32 hj0 jz1 .i64 (some ⟨g, off, none⟩) l.length cap (i + 1) (by omega) ((i : Int) + 1) (by push_cast; rfl)
  rw [he2] at h2
  have H1 := Lib.hid h1
  have H2 := Lib.hid h2
  have hone1 : ∀ u ∈ (drCells l).take (i * 6), u.oneCell' = true := fun u hu => hone u (List.mem_of_mem_take hu)
  have hone2 : ∀ u ∈ (drCells l).drop ((i + 1) * 6), u.oneCell' = true := fun u hu => hone u (List.mem_of_mem_drop hu)
  have Hone1 := Lib.hid hone1
  have Hone2 := Lib.hid hone2
  have her := drCells_erase l i
  have Her := Lib.hid her
  have hE := Lib.hid (ow_empty w 46 6)
  clear h hd hone h1 h2 hone1 hone2 her he2
  generalize hm : l.length = n at *
  clear hm
  go_enter Try.func38, Try.ntmps38
  go_wp2_with (at_builtin; refine wpList_append_all (w.alloc (.cells #[] 46)) rfl _ _ 32 rfl 46 j0 _ 6 80 Try.underlying32 hj0 jz0 jz1 jz2 rfl (by decide) _ _ _ rfl hE.out.sl _ _ _ rfl (H1.out.fr hE.out.fr (fun _ _ _ f => f)) Hone1.out (by unfold maxLen; omega) (by omega) ?_)
  intro ao6 cap6 w6 hs6 hf6 ho6 _
  have HO6 := Lib.hid (hE.out.app hs6 hf6 (by simpa using ho6))
  obtain ⟨_, _, e6, hc6, hm6⟩ := HO6.out.cap
  cases e6
  clear hs6 hf6 ho6 hE
  go_wp2_with (at_builtin; refine wpList_append_all w6 rfl _ _ 32 rfl 46 j0 _ 6 80 Try.underlying32 hj0 jz0 jz1 jz2 rfl (by decide) _ _ _ rfl HO6.out.sl _ _ _ rfl (H2.out.fr HO6.out.fr (fun _ _ _ f => f)) Hone2.out (by unfold maxLen; omega) (by omega) ?_)
  intro ao7 cap7 w7 hs7 hf7 ho7 _
  rw [Her.out, show i + (n - (i + 1)) = n - 1 by omega] at hs7
  have HO7 := Lib.hid (HO6.out.app hs7 hf7 (by rw [show i + (n - (i + 1)) = n - 1 by omega] at ho7; exact ho7))
  have e1 : i + (n - (i + 1)) = n - 1 := by omega
  rw [e1]
  clear hs7 hf7 ho7 HO6 cTo c3 c4 hj0 jz0 jz1 jz2 e1
  go_wp2
  go_ret
  exact ⟨_, _, rfl, HO7.out⟩

set_option maxHeartbeats 4000000 in
theorem ref_gone (own next : Int) (sv lv v : Value) (seen : List Int) (l : List Dr) (i : Nat) (d : Dr) (w : World) (hs : IntsAt w sv seen) (h : DrsAt w v l) (hd : ∀ x ∈ l, DrOk w x) (hi : l[i]? = some d) (lo : Option Addr) (ll lc : Nat) (hlv : lv = .slice lo ll lc) :
    Calls Try.prog 39 #[tkV own next sv lv, v, .int .i64 i] w fun e w' => e = .returned (.bool (rgone own seen (l.take i) d)) ∧ Fr no w w' := by
  obtain ⟨so, sc, rfl, _, _⟩ := hs.cap
  obtain ⟨vo, vc, rfl, hvc, hvm⟩ := h.cap
  subst hlv
  have hil := (List.getElem?_eq_some_iff.1 hi).1
  have hdo := hd d (List.mem_of_getElem? hi)
  obtain ⟨g, off, c', he, e0, e1, e2, e3, e4, e5⟩ := drs_cells h hi
  cases he
  have H : Hid (Rd w 6 (.slice (some ⟨g, off, none⟩) l.length vc) l.length (drCells l)) := Lib.hid h
  have Hgt := Lib.hid (fun (w' : World) (hf : Fr no w w') => ref_get (.slice so seen.length sc) seen d.s w' (hs.fr hf (fun _ _ _ f => f)))
  obtain ⟨dt, ds, dq, dv, dep, dk, dx⟩ := d
  obtain ⟨dO, dc, hdv, _, _⟩ := Rd.cap hdo
  dsimp only at *
  subst hdv
  have hm : ∀ r, (if ds = own then decide (dq ≠ 0) else decide (dq ≤ vget seen ds) || (l.take i).any (fun x => decide (x.s = ds) && decide (x.q = dq))) = r → Hid (rgone own seen (l.take i) ⟨dt, ds, dq, .slice dO dep.length dc, dep, dk, dx⟩ = r) := fun r h => Lib.hid h
  obtain ⟨G, hG⟩ : ∃ G, vget seen ds = G := ⟨_, rfl⟩
  rw [hG] at hm Hgt
  obtain ⟨w2, hw2⟩ : ∃ w2, (w.alloc (.cells #[.int .i64 own, .int .i64 next, .slice so seen.length sc, .slice lo ll lc] 34)).alloc (.cells #[.int .i64 ds, .int .i64 dq, .slice dO dep.length dc, .string dk, .string dx] 44) = w2 := ⟨_, rfl⟩
  have hb0 : w2.heap[w.heap.size]? = some (.cells #[.int .i64 own, .int .i64 next, .slice so seen.length sc, .slice lo ll lc] 34 (0, 0)) := by rw [← hw2]; simp only [alloc_get, World.size_alloc]; simp
  have hb1 : w2.heap[w.heap.size + 1]? = some (.cells #[.int .i64 ds, .int .i64 dq, .slice dO dep.length dc, .string dk, .string dx] 44 (0, 0)) := by rw [← hw2]; simp only [alloc_get, World.size_alloc]; simp
  have hf1 : Fr no w (w.alloc (.cells #[.int .i64 own, .int .i64 next, .slice so seen.length sc, .slice lo ll lc] 34)) := (Fr.refl no w).alloc _
  have hf2 : Fr no w w2 := by rw [← hw2]; exact hf1.alloc _
  have x0 := hf1.cell e0 (fun f => f)
  have x1 := hf1.cell e1 (fun f => f)
  have x2 := hf1.cell e2 (fun f => f)
  have x3 := hf1.cell e3 (fun f => f)
  have x4 := hf1.cell e4 (fun f => f)
  have x5 := hf1.cell e5 (fun f => f)
  have HB0 := Lib.hid hb0
  have HB1 := Lib.hid hb1
  have HF2 := Lib.hid hf2
  have HW2 := Lib.hid hw2
  have Hi := Lib.hid hi
  generalize seen.length = sn at *
  generalize dep.length = dn at *
  generalize hn : l.length = n at *
  have Hn := Lib.hid hn
  clear hs h hd hb0 hb1 hf1 hf2 hw2 hG hdo e0 e1 e2 e3 e4 e5 hn hi
  unfold tkV
  go_enter Try.func39, Try.ntmps39
  go_upto_region 2 with (fail)
  rw [HW2.out]
  clear HW2 x0 x1 x2 x3 x4 x5
  have t0 := cell_of_block (j := 0) HB0.out rfl
  have t2 := cell_of_block (j := 2) HB0.out rfl
  have r0 := cell_of_block (j := 0) HB1.out rfl
  have r1 := cell_of_block (j := 1) HB1.out rfl
  by_cases hso : ds = own
  · have R := hm (decide (dq ≠ 0)) (if_pos hso)
    clear hm
    subst hso
    go_wp2
    go_ret
    rw [R.out]
    exact ⟨by by_cases hq : dq = 0 <;> simp [hq], HF2.out⟩
  · have R := hm _ (if_neg hso)
    clear hm
    go_upto_region 4 with (fail)
    obtain ⟨Sg190_0, HSg190_0⟩ : ∃ S : World → Prop, Hid (S = (fun w' => w'.cell? ⟨w.heap.size, 2, none⟩ = some (.slice so sn sc) ∧ w'.cell? ⟨w.heap.size + 1, 0, none⟩ = some (.int .i64 ds) ∧ w'.cell? ⟨w.heap.size + 1, 1, none⟩ = some (.int .i64 dq))) := ⟨_, Lib.hid rfl⟩
    refine wp_heldp [] (pickS [Sg190_0]) (by kernel_rfl) ?_ (fun hHeld => ?_)
    · show Sg190_0 _; rw [HSg190_0.out]; exact ⟨t2, r0, r1⟩
    have D2 : Hid (Fr no w w2.drew) := Lib.hid (HF2.out.drewN 1)
    refine heldp_take (v := ?_) 0 0 rfl (by kernel_rfl) (.inl ⟨by rfl, ?_⟩) hHeld ?_
    rotate_left
    · intro w hSw; replace hSw : Sg190_0 w := hSw; rw [HSg190_0.out] at hSw; (try dsimp only at hSw); first | (go_simp; done) | (go_simp; with_reducible rfl)
    try simp only [Act.put, List.setIfInBounds_toArray, List.set_cons_zero, List.set_cons_succ]
    refine heldp_take (v := ?_) 1 0 rfl (by kernel_rfl) (.inl ⟨by rfl, ?_⟩) hHeld ?_
    rotate_left
    · intro w hSw; replace hSw : Sg190_0 w := hSw; rw [HSg190_0.out] at hSw; (try dsimp only at hSw); first | (go_simp; done) | (go_simp; with_reducible rfl)
    try simp only [Act.put, List.setIfInBounds_toArray, List.set_cons_zero, List.set_cons_succ]
    refine heldp_take (v := ?_) 2 0 rfl (by kernel_rfl) (.inl ⟨by rfl, ?_⟩) hHeld ?_
    rotate_left
    · intro w hSw; replace hSw : Sg190_0 w := hSw; rw [HSg190_0.out] at hSw; (try dsimp only at hSw); first | (go_simp; done) | (go_simp; with_reducible rfl)
    try simp only [Act.put, List.setIfInBounds_toArray, List.set_cons_zero, List.set_cons_succ]
    refine heldp_take (v := ?_) 3 0 rfl (by kernel_rfl) (.inl ⟨by rfl, ?_⟩) hHeld ?_
    rotate_left
    · intro w hSw; replace hSw : Sg190_0 w := hSw; rw [HSg190_0.out] at hSw; (try dsimp only at hSw); first | (go_simp; done) | (go_simp; with_reducible rfl)
    try simp only [Act.put, List.setIfInBounds_toArray, List.set_cons_zero, List.set_cons_succ]
    refine heldp_take (v := ?_) 4 0 rfl (by kernel_rfl) (.inl ⟨by rfl, ?_⟩) hHeld ?_
    rotate_left
    · intro w hSw; replace hSw : Sg190_0 w := hSw; rw [HSg190_0.out] at hSw; (try dsimp only at hSw); first | (go_simp; done) | (go_simp; with_reducible rfl)
    try simp only [Act.put, List.setIfInBounds_toArray, List.set_cons_zero, List.set_cons_succ]
    refine heldp_take (v := ?_) 5 0 rfl (by kernel_rfl) (.inl ⟨by rfl, ?_⟩) hHeld ?_
    rotate_left
    · intro w hSw; replace hSw : Sg190_0 w := hSw; rw [HSg190_0.out] at hSw; (try dsimp only at hSw); first | (go_simp; done) | (go_simp; with_reducible rfl)
    try simp only [Act.put, List.setIfInBounds_toArray, List.set_cons_zero, List.set_cons_succ]
    refine heldp_call 6 0 rfl (by kernel_rfl) (fun K hK => ?_)
    go_simp
    go_at_call 22
    refine (Hgt.out _ D2.out).mono ?_
    rintro e w' ⟨rfl, rfl⟩
    refine hK.out _ _ ?_ (fun hHeld' => ?_)
    · show Sg190_0 _; rw [HSg190_0.out]; exact ⟨t2, r0, r1⟩
    clear hK K hHeld
    have hHeld := hHeld'
    clear hHeld'
    try simp only [Act.put, List.setIfInBounds_toArray, List.set_cons_zero, List.set_cons_succ]
    refine heldp_take (v := ?_) 7 0 rfl (by kernel_rfl) (.inl ⟨by rfl, ?_⟩) hHeld ?_
    rotate_left
    · intro w hSw; replace hSw : Sg190_0 w := hSw; rw [HSg190_0.out] at hSw; (try dsimp only at hSw); first | (go_simp; done) | (go_simp; with_reducible rfl)
    try simp only [Act.put, List.setIfInBounds_toArray, List.set_cons_zero, List.set_cons_succ]
    refine heldp_done (by kernel_rfl) ?_
    try clear hHeld
    clear HSg190_0
    try clear Sg190_0
    have HB0' : Hid (w2.drew.heap[w.heap.size]? = some (.cells #[.int .i64 own, .int .i64 next, .slice so sn sc, .slice lo ll lc] 34 (0, 0))) := Lib.hid HB0.out
    have HB1' : Hid (w2.drew.heap[w.heap.size + 1]? = some (.cells #[.int .i64 ds, .int .i64 dq, .slice dO dn dc, .string dk, .string dx] 44 (0, 0))) := Lib.hid HB1.out
    clear t0 t2 r0 r1 HB0 HB1 HF2
    generalize w2.drew = w3 at *
    by_cases hle : dq ≤ G
    · rw [decide_eq_true hle, Bool.true_or] at R
      go_wp2
      go_ret
      rw [R.out]
      exact ⟨rfl, D2.out⟩
    · rw [decide_eq_false hle, Bool.false_or] at R
      go_wp2_with fail
      go_loopw [8] (fun iv wr => ∃ j : Nat, j ≤ i ∧ iv = .int .i64 j ∧ Hid (Fr no w3 wr) ∧ Hid ((l.take j).any (fun x => decide (x.s = ds) && decide (x.q = dq)) = false)) (fun iv _ => i - (intOf iv).toNat)
      case atStart => exact ⟨0, Nat.zero_le _, rfl, Lib.hid (Fr.refl _ _), Lib.hid rfl⟩
      case round =>
        obtain ⟨j, hj, rfl, hF, hA⟩ := hrel
        generalize wr = W at *
        by_cases hlt : j < i
        · obtain ⟨x, hxk⟩ : ∃ x, l[j]? = some x := ⟨l[j]'(by rw [Hn.out]; omega), by simp⟩
          obtain ⟨g2, off2, c2', he, f0, f1, f2, f3, f4, f5⟩ := drs_cells (w := W) (v := .slice (some ⟨g, off, none⟩) n vc) (l := l) (by show Rd W 6 _ l.length _; rw [Hn.out]; exact H.out.fr (D2.out.trans' hF.out) (fun _ _ _ f => f)) hxk
          rw [Hn.out] at he
          cases he
          have htk : l.take (j + 1) = l.take j ++ [x] := by rw [List.take_add_one, hxk]; simp
          have hjn : j < n := by omega
          have r0 := cell_of_block (j := 0) (hF.out.heap HB1'.out (fun f => f)) rfl
          have r1 := cell_of_block (j := 1) (hF.out.heap HB1'.out (fun f => f)) rfl
          obtain ⟨xt, xs, xq, xd, xe, xk, xv⟩ := x
          dsimp only at f0 f1 f2 f3 f4 f5
          have hany : ∀ b, (decide (xs = ds) && decide (xq = dq)) = b → Hid ((l.take (j + 1)).any (fun x => decide (x.s = ds) && decide (x.q = dq)) = b) := fun b hb => Lib.hid (by rw [htk, List.any_append, hA.out]; simpa using hb)
          have Hany := Lib.hid hany
          have htrue : (decide (xs = ds) && decide (xq = dq)) = true → (l.take i).any (fun x => decide (x.s = ds) && decide (x.q = dq)) = true := fun hb => List.any_eq_true.2 ⟨_, by
            refine List.mem_of_getElem? (i := j) ?_
            rw [List.getElem?_take, if_pos hlt]; exact hxk, hb⟩
          have Htrue := Lib.hid htrue
          clear hxk htk hA hany htrue
          go_upto_region 9 with (fail)
          by_cases k1 : xs = ds
          · by_cases k2 : xq = dq
            · have hR := Htrue.out (by simp [k1, k2])
              rw [hR] at R
              clear Hany Htrue hR
              subst k1
              subst k2
              go_quiet (fail)
              go_wp2
              go_ret
              rw [R.out]
              exact ⟨rfl, D2.out.trans' (hF.out.drewN _)⟩
            · have HA2 := Hany.out false (by simp [k2])
              clear Hany Htrue
              subst k1
              go_quiet (fail)
              go_wp2
              go_roundw
              case rel => exact ⟨j + 1, by omega, by go_num, Lib.hid (hF.out.drewN _), HA2⟩
              case measure => simp [intOf]; omega
          · have HA2 := Hany.out false (by simp [k1])
            clear Hany Htrue
            go_quiet (fail)
            go_wp2
            go_roundw
            case rel => exact ⟨j + 1, by omega, by go_num, Lib.hid (hF.out.drewN _), HA2⟩
            case measure => simp [intOf]; omega
        · obtain rfl : i = j := by omega
          rw [hA.out] at R
          go_wp2
          go_ret
          rw [R.out]
          exact ⟨rfl, D2.out.trans' hF.out⟩
end Go.Proofs.Ytdddgfienicaaaa
