/- The document's token: Admit. -/
import Derived.Test.YtdddgfienicaaaaTokA
namespace Go.XL
open Go.RowKit Go.Shelf
set_option linter.unusedVariables false
theorem AdI.delO {TT TD TS : TypeId} {w wr w' : World} {own : Int} {sv0 : Value} {a : AS} {sv lv lv' ov lv0 : Value} {left' : List Dr} (h : AdI TT TD TS w wr own sv0 a sv lv ov lv0)
    (hO : Ow wr w' TD 6 lv' left'.length (drCells left')) : AdI TT TD TS w w' own sv0 { a with left := left' } sv lv' ov lv0 := by
  have h1 := h.fr0 hO.fr
  have hlr := (Array.getElem?_eq_some_iff.1 h.res).1
  refine ⟨h1.tk, h1.res, ?_, hO.sl, h1.out, fun g hg e => ?_, fun g hg => ?_, h.ovb, h1.fr, h.svo⟩
  · exact (h.seen.grow (by decide) (fun g e => by
      rcases e with e | e
      · exact .inr (hO.fresh g e)
      · exact .inl (.inr e))).fr0' hO.fr
  · have := hO.fresh g hg
    have := h.out.lt g e
    omega
  · have := hO.fresh g hg
    omega
theorem LtI.app' {TT TD TS : TypeId} {w wr w' : World} {own : Int} {sv0 : Value} {a : AS} {sv lv ov tv tv' : Value} {acc : List Dr} {x : Dr} (h : LtI TT TD TS w wr own sv0 a sv lv ov tv acc)
    (hs : Sl w' TD 6 tv' (acc.length + 1) (drCells acc ++ x.cs)) (hf : Fr (fun k => tv.ownBlock = some k) wr w') (hor : tv'.ownBlock = tv.ownBlock ∨ ∀ g, tv'.ownBlock = some g → wr.heap.size ≤ g) :
    LtI TT TD TS w (w'.setCell ⟨w.heap.size, 3, none⟩ tv') own sv0 a sv lv ov tv' (acc ++ [x]) := by
  have hne : ∀ k, k < w.heap.size + 2 → ¬ tv.ownBlock = some k := fun k hk e => by have := h.tvb k e; omega
  have hnew : ∀ g, tv'.ownBlock = some g → tv.ownBlock = some g ∨ wr.heap.size ≤ g := fun g hg => hor.elim (fun e => .inl (e ▸ hg)) (fun e => .inr (e g hg))
  have hlr := (Array.getElem?_eq_some_iff.1 h.res).1
  have hX : ∀ g, (tv'.ownBlock = some g ∨ g = w.heap.size ∨ g = w.heap.size + 1) → (tv.ownBlock = some g ∨ g = w.heap.size ∨ g = w.heap.size + 1) ∨ wr.heap.size ≤ g := fun g e => e.elim (fun e => (hnew g e).elim (fun e => .inl (.inl e)) .inr) (fun e => .inl (.inr e))
  have hb' : ∀ g, tv'.ownBlock = some g → w.heap.size + 2 ≤ g := fun g e => (hnew g e).elim (h.tvb g) (fun e => by omega)
  have hst : Fr (fun i => i = w.heap.size) w' (w'.setCell ⟨w.heap.size, 3, none⟩ tv') := (Fr.refl (fun i => i = w.heap.size) w').setCell (p := ⟨w.heap.size, 3, none⟩) (fun _ => rfl) _
  have key : ∀ {size : Nat} {v : Value} {n : Nat} {xs : List Value}, 0 < size → RdX (fun g => tv.ownBlock = some g ∨ g = w.heap.size ∨ g = w.heap.size + 1) wr size v n xs → RdX (fun g => tv'.ownBlock = some g ∨ g = w.heap.size ∨ g = w.heap.size + 1) (w'.setCell ⟨w.heap.size, 3, none⟩ tv') size v n xs :=
    fun hs h2 => RdX.fr (X := fun g => tv'.ownBlock = some g ∨ g = w.heap.size ∨ g = w.heap.size + 1) ⟨(h2.fr hf (fun g _ e => .inl e)).1, (h2.grow hs hX).2⟩ hst (fun g _ e => .inr (.inl e))
  refine ⟨by simpa using heap_setC (j := 3) tv' (hf.heap h.tk (hne _ (by omega))), hst.heap (hf.heap h.res (hne _ (by omega))) (by omega), key (by decide) h.seen, key (by decide) h.left, key (by decide) h.out, ?_, hb',
    (h.fr.trans hf (fun i hi e => hne i (by omega) e)).trans hst (fun i hi e => by omega), h.ovb, h.svo⟩
  have := hs.fr hst (fun g hg e => by have := hb' g hg; omega)
  rw [List.length_append, drCells_append]
  simpa [drCells] using this
theorem rlate_drop {own : Int} {seen : List Int} {l : List Dr} {k : Nat} {d : Dr} (h : l[k]? = some d) (acc : List Dr) : rlate own seen (l.take k) (l.drop k) acc = rlate own seen (l.take (k + 1)) (l.drop (k + 1)) (if rgone own seen (l.take k) d = true then acc else acc ++ [d]) := by
  obtain ⟨hk, hx⟩ := List.getElem?_eq_some_iff.1 h
  rw [List.drop_eq_getElem_cons hk, hx, List.take_add_one, h]
  rfl
end Go.XL
namespace Go.Proofs.Ytdddgfienicaaaa
open Go.RowKit Go.Shelf Go.XL
set_option linter.unusedVariables false
set_option linter.unusedSimpArgs false
attribute [local go_sem] Oper.semAt_some
abbrev LtR10 := LtI 34 46 78
abbrev AdR10 := AdI 34 46 78

set_option maxRecDepth 100000 in
set_option maxHeartbeats 4000000 in
theorem rAdmit (own next : Int) (sv v0 v1 : Value) (seen : List Int) (late l : List Dr) (w : World) (hs : IntsAt w sv seen) (ho : SeenOk seen) (h0 : DrsAt w v0 late) (h1 : DrsAt w v1 l) (hd : ∀ d ∈ late ++ l, DrOk w d) (hq : ∀ d ∈ late ++ l, 0 ≤ d.q ∧ d.q ≤ 1048576)
    (hn : late.length + l.length ≤ 1000) (hsl : seen.length ≤ 1000) (hnx0 : 0 ≤ next) (hnx : next ≤ 1099511627776) :
    Calls Try.prog 18 #[tkV own next sv v0, v1] w fun e w' => ∃ sv' tv' ov', e = .returned (.tuple #[tkV own (ago own (late.length + l.length) ⟨next, seen, late ++ l, []⟩).next sv' tv', ov']) ∧ AdR w w' own next (late.length + l.length) (ago own (late.length + l.length) ⟨next, seen, late ++ l, []⟩) sv sv' tv' ov' := by
  obtain ⟨so, sc, rfl, _, _⟩ := hs.cap
  obtain ⟨a0, c0, rfl, _, _⟩ := h0.cap
  obtain ⟨a1, c1, rfl, _, _⟩ := h1.cap
  obtain ⟨w1, hw1⟩ : ∃ w1, ((w.alloc (.cells #[.int .i64 own, .int .i64 next, .slice so seen.length sc, .slice a0 late.length c0] 34)).alloc (.cells #[.int .i64 0, .int .i64 0, .slice none 0 0, .slice none 0 0] 34)) = w1 := ⟨_, rfl⟩
  have hf2 : Fr no w w1 := by rw [← hw1]; exact ((Fr.refl no w).alloc _).alloc _
  have hb0 : w1.heap[w.heap.size]? = some (.cells #[.int .i64 own, .int .i64 next, .slice so seen.length sc, .slice a0 late.length c0] 34 (0, 0)) := by rw [← hw1]; simp only [alloc_get, World.size_alloc]; simp
  have hb1 : w1.heap[w.heap.size + 1]? = some (.cells #[.int .i64 0, .int .i64 0, .slice none 0 0, .slice none 0 0] 34 (0, 0)) := by rw [← hw1]; simp only [alloc_get, World.size_alloc]; simp
  have hsz : w1.heap.size = w.heap.size + 2 := by rw [← hw1]; simp [World.size_alloc]
  have HW1 := Lib.hid hw1
  have HB0 := Lib.hid hb0
  have HB1 := Lib.hid hb1
  have HSZ := Lib.hid hsz
  clear hw1 hb0 hb1 hsz
  have hone : ∀ u ∈ drCells late, u.oneCell' = true := drCells_one (fun d h => hd d (by simp [h]))
  have hE := Lib.hid (ow_empty w1 46 6)
  have H0 : Hid (Rd w 6 (.slice a0 late.length c0) late.length (drCells late)) := Lib.hid h0
  have Hone0 := Lib.hid hone
  obtain ⟨i0, hi0, hz0', hz1', hz2'⟩ := info_parts (show (Try.prog.info? 46).map (fun i => (i.zero, i.size, i.bytes)) = some (some (.agg #[.int .i64 0, .int .i64 0, .int .i64 0, .slice none 0 0, .string ByteArray.empty, .string ByteArray.empty]), 6, 80) by kernel_rfl)
  have Hs := Lib.hid hs
  have H1 : Hid (Rd w 6 (.slice a1 l.length c1) l.length (drCells l)) := Lib.hid h1
  have Hd := Lib.hid hd
  have Hq := Lib.hid hq
  have HF2 := Lib.hid hf2
  clear hs h0 h1 hd hq hf2 hone
  unfold tkV
  go_enter Try.func18, Try.ntmps18
  generalize hn0 : late.length = n0 at *
  go_upto_region 1 with (fail)
  rw [HW1.out]
  clear HW1
  have q3 := cell_of_block (j := 3) HB0.out rfl
  have hq1 : w.heap.size < w1.heap.size := by have := HSZ.out; omega
  go_wp2_with (at_builtin; refine wpList_append_all (w1.alloc (.cells #[] 46)) rfl _ _ 32 rfl 46 i0 _ 6 80 Try.underlying32 hi0 hz0' hz1' hz2' rfl (by decide) _ _ _ rfl hE.out.sl _ _ _ rfl (H0.out.fr (HF2.out.trans' hE.out.fr) (fun _ _ _ f => f)) Hone0.out (by unfold maxLen; omega) (by omega) ?_)
  intro ao2 cap2 w2 hs2 hf2 ho2 _
  have HO := Lib.hid (hE.out.app hs2 hf2 (by simpa using ho2))
  replace HO : Hid (Ow w1 w2 46 6 (.slice ao2 n0 cap2) n0 (drCells late)) := Lib.hid (by have h := HO.out; first | exact h | (rw [Nat.zero_add] at h; exact h) | simpa using h)
  have hone : ∀ u ∈ drCells l, u.oneCell' = true := drCells_one (fun d h => Hd.out d (by simp [h]))
  have Hone := Lib.hid hone
  clear hs2 hf2 ho2 hE hone
  generalize hn1 : l.length = n1 at *
  have Hn0 := Lib.hid hn0
  have Hn1 := Lib.hid hn1
  clear hn0 hn1
  go_wp2_with (at_builtin; refine wpList_append_all w2 rfl _ _ 32 rfl 46 i0 _ 6 80 Try.underlying32 hi0 hz0' hz1' hz2' rfl (by decide) _ _ _ rfl HO.out.sl _ _ _ rfl (H1.out.fr (HF2.out.trans' HO.out.fr) (fun _ _ _ f => f)) Hone.out (by unfold maxLen; omega) (by omega) ?_)
  intro ao3 cap3 w3 hs3 hf3 ho3 _
  have hO3 := HO.out.app hs3 hf3 ho3
  have hI : AdR10 w w3 own (.slice so seen.length sc) ⟨next, seen, late ++ l, []⟩ (.slice so seen.length sc) (.slice ao3 (n0 + n1) cap3) (.slice none 0 0) (.slice a0 n0 c0) := by
    have hfr : Fr no w w3 := HF2.out.trans' hO3.fr
    refine ⟨hO3.fr.heap HB0.out (fun f => f), hO3.fr.heap HB1.out (fun f => f), ?_, ?_, ?_, ?_, ?_, ?_, hfr, .inl rfl⟩
    · exact (Hs.out.x (by decide) (fun g hg => by
        rcases hg with e | e | e
        · have := hO3.fresh g e; have := HSZ.out; omega
        · simp [Value.ownBlock] at e
        · omega)).fr0' hfr
    · rw [List.length_append, Hn0.out, Hn1.out, drCells_append]; exact hs3
    · simpa [slCells] using Sl.nil _ _ _
    · intro g _ e; simp [Value.ownBlock] at e
    · intro g hg; have := hO3.fresh g hg; have := HSZ.out; omega
    · intro g e; simp [Value.ownBlock] at e
  have HI := Lib.hid hI
  have hP : AdP w (n0 + n1) next ⟨next, seen, late ++ l, []⟩ := ⟨by rw [List.length_append, Hn0.out, Hn1.out]; rfl, by simp, ho, hsl, fun d h => ⟨Hd.out d h, Hq.out d h⟩, fun x h => by simp at h⟩
  have HP := Lib.hid hP
  have hR : ∃ R, ago own (n0 + n1) ⟨next, seen, late ++ l, []⟩ = R := ⟨_, rfl⟩
  obtain ⟨R, hR⟩ := hR
  have HR := Lib.hid hR
  clear hs3 hf3 ho3 hO3 hI HO hi0 hz0' hz1' hz2' Hone hP hR
  go_wp2_with fail
  go_loopw [6, 7, 8] (fun lv ov iv wr => ∃ (a : AS) (sv : Value) (lo : Option Addr) (lc : Nat) (oo : Option Addr) (oc : Nat) (i : Nat), i ≤ a.left.length ∧ lv = .slice lo a.left.length lc ∧ ov = .slice oo a.out.length oc ∧ iv = .int .i64 i ∧ Hid (AdR10 w wr own (.slice so seen.length sc) a sv lv ov (.slice a0 n0 c0)) ∧ Hid (AdP w (n0 + n1) next a) ∧ Hid (ago own a.left.length a = R) ∧ Hid (afirst (dmay own a.seen) a.left 0 = afirst (dmay own a.seen) (a.left.drop i) i)) (fun lv _ iv _ => vlen lv * 1001 + (vlen lv - (intOf iv).toNat))
  case atStart =>
    refine ⟨_, _, ao3, cap3, none, 0, 0, Nat.zero_le _, ?_, rfl, rfl, HI, HP, ?_, Lib.hid rfl⟩
    · rw [List.length_append, Hn0.out, Hn1.out]
    · rw [List.length_append, Hn0.out, Hn1.out]; exact HR
  case round =>
    obtain ⟨a, sv, lo, lc, oo, oc, i, hi, rfl, rfl, rfl, hA, hB, hC, hF⟩ := hrel
    generalize wr = U at *
    obtain ⟨so2, sc2, hsv, hsc1, hsc2⟩ := hA.out.seen.rd.cap
    obtain ⟨_, _, hlv, hlc1, hlc2⟩ := hA.out.left.cap
    cases hlv
    obtain ⟨_, _, hov, hoc1, hoc2⟩ := hA.out.out.cap
    cases hov
    subst hsv
    · by_cases hlt : i < a.left.length
      · obtain ⟨d, hdk⟩ : ∃ x, a.left[i]? = some x := ⟨a.left[i], by simp [hlt]⟩
        obtain ⟨hdo, hdq0, hdq1⟩ := hB.out.lk d (List.mem_of_getElem? hdk)
        obtain ⟨g, off, c', he, e0, e1, e2, e3, e4, e5⟩ := drs_cells hA.out.left.rd hdk
        cases he
        have t0 : U.cell? ⟨w.heap.size, 0, none⟩ = some (.int .i64 own) := cell_of_block hA.out.tk rfl
        have t1 : U.cell? ⟨w.heap.size, 1, none⟩ = some (.int .i64 a.next) := cell_of_block hA.out.tk rfl
        have t2 : U.cell? ⟨w.heap.size, 2, none⟩ = some (.slice so2 a.seen.length sc2) := cell_of_block hA.out.tk rfl
        have t3 : U.cell? ⟨w.heap.size, 3, none⟩ = some (.slice a0 n0 c0) := cell_of_block hA.out.tk rfl
        have htb : w.heap.size < U.heap.size := (Array.getElem?_eq_some_iff.1 hA.out.tk).1
        have hmay := fun (U' : World) (hf : Fr no U U') => ref_may own a.next (.slice so2 a.seen.length sc2) (.slice a0 n0 c0) a.seen d U' (hA.out.seen.rd.fr hf (fun _ _ _ f => f)) (Rd.fr hdo (hA.out.fr.trans' hf) (fun _ _ _ f => f)) hB.out.sk _ _ _ rfl
        obtain ⟨dt, ds, dq, dv, dep, dk, dx⟩ := d
        obtain ⟨dO, dc, hdv, _, _⟩ := Rd.cap hdo
        dsimp only at *
        subst hdv
        unfold tkV Dr.v at hmay
        dsimp only at hmay
        have Hmay := Lib.hid hmay
        have Hdk := Lib.hid hdk
        have Hdo := Lib.hid hdo
        clear hmay hdk hdo htb
        generalize hdn : dep.length = dn at *
        go_upto_region 5 with (fail)
        obtain ⟨Sg157_0, HSg157_0⟩ : ∃ S : World → Prop, Hid (S = (fun w' => w'.cell? ⟨w.heap.size, 0, none⟩ = some (.int .i64 own) ∧ w'.cell? ⟨w.heap.size, 1, none⟩ = some (.int .i64 a.next) ∧ w'.cell? ⟨w.heap.size, 2, none⟩ = some (.slice so2 a.seen.length sc2) ∧ w'.cell? ⟨w.heap.size, 3, none⟩ = some (.slice a0 n0 c0) ∧ w'.cell? ⟨g, off + i * 6, none⟩ = some (.int .i64 dt) ∧ w'.cell? ⟨g, off + i * 6 + 1, none⟩ = some (.int .i64 ds) ∧ w'.cell? ⟨g, off + i * 6 + 2, none⟩ = some (.int .i64 dq) ∧ w'.cell? ⟨g, off + i * 6 + 3, none⟩ = some (.slice dO dn dc) ∧ w'.cell? ⟨g, off + i * 6 + 4, none⟩ = some (.string dk) ∧ w'.cell? ⟨g, off + i * 6 + 5, none⟩ = some (.string dx))) := ⟨_, Lib.hid rfl⟩
        refine wp_heldp [] (pickS [Sg157_0]) (by kernel_rfl) ?_ (fun hHeld => ?_)
        · show Sg157_0 _; rw [HSg157_0.out]; exact ⟨t0, t1, t2, t3, e0, e1, e2, e3, e4, e5⟩
        obtain ⟨wc, hwc⟩ : ∃ x, U.drew = x := ⟨_, rfl⟩; rw [hwc] at hHeld; rw [hwc]; have HF : Hid (Fr no U wc) := (by rw [← hwc]; exact Lib.hid ((Fr.refl no U).drewN 1)); clear hwc
        refine heldp_take (v := ?_) 0 0 rfl (by kernel_rfl) (.inl ⟨by rfl, ?_⟩) hHeld ?_
        rotate_left
        · intro w hSw; replace hSw : Sg157_0 w := hSw; rw [HSg157_0.out] at hSw; (try dsimp only at hSw); first | (go_simp; done) | (go_simp; with_reducible rfl)
        try simp only [Act.put, List.setIfInBounds_toArray, List.set_cons_zero, List.set_cons_succ]
        refine heldp_take (v := ?_) 1 0 rfl (by kernel_rfl) (.inl ⟨by rfl, ?_⟩) hHeld ?_
        rotate_left
        · intro w hSw; replace hSw : Sg157_0 w := hSw; rw [HSg157_0.out] at hSw; (try dsimp only at hSw); first | (go_simp; done) | (go_simp; with_reducible rfl)
        try simp only [Act.put, List.setIfInBounds_toArray, List.set_cons_zero, List.set_cons_succ]
        refine heldp_take (v := ?_) 2 0 rfl (by kernel_rfl) (.inl ⟨by rfl, ?_⟩) hHeld ?_
        rotate_left
        · intro w hSw; replace hSw : Sg157_0 w := hSw; rw [HSg157_0.out] at hSw; (try dsimp only at hSw); first | (go_simp; done) | (go_simp; with_reducible rfl)
        try simp only [Act.put, List.setIfInBounds_toArray, List.set_cons_zero, List.set_cons_succ]
        refine heldp_take (v := ?_) 3 0 rfl (by kernel_rfl) (.inl ⟨by rfl, ?_⟩) hHeld ?_
        rotate_left
        · intro w hSw; replace hSw : Sg157_0 w := hSw; rw [HSg157_0.out] at hSw; (try dsimp only at hSw); first | (go_simp; done) | (go_simp; with_reducible rfl)
        try simp only [Act.put, List.setIfInBounds_toArray, List.set_cons_zero, List.set_cons_succ]
        refine heldp_take (v := ?_) 4 0 rfl (by kernel_rfl) (.inl ⟨by rfl, ?_⟩) hHeld ?_
        rotate_left
        · intro w hSw; replace hSw : Sg157_0 w := hSw; rw [HSg157_0.out] at hSw; (try dsimp only at hSw); first | (go_simp; done) | (go_simp; with_reducible rfl)
        try simp only [Act.put, List.setIfInBounds_toArray, List.set_cons_zero, List.set_cons_succ]
        refine heldp_call 5 0 rfl (by kernel_rfl) (fun K hK => ?_)
        go_simp
        go_at_call 15
        refine (Hmay.out _ HF.out).mono ?_
        rintro e wc ⟨rfl, hfd⟩
        replace HF := Lib.hid (HF.out.trans' hfd)
        clear hfd
        refine hK.out _ _ ?_ (fun hHeld' => ?_)
        · show Sg157_0 _; rw [HSg157_0.out]; have hq := HF.out; exact ⟨hq.cell t0 (fun f => f), hq.cell t1 (fun f => f), hq.cell t2 (fun f => f), hq.cell t3 (fun f => f), hq.cell e0 (fun f => f), hq.cell e1 (fun f => f), hq.cell e2 (fun f => f), hq.cell e3 (fun f => f), hq.cell e4 (fun f => f), hq.cell e5 (fun f => f)⟩
        clear hK K hHeld
        have hHeld := hHeld'
        clear hHeld'
        try simp only [Act.put, List.setIfInBounds_toArray, List.set_cons_zero, List.set_cons_succ]
        refine heldp_take (v := ?_) 6 0 rfl (by kernel_rfl) (.inl ⟨by rfl, ?_⟩) hHeld ?_
        rotate_left
        · intro w hSw; replace hSw : Sg157_0 w := hSw; rw [HSg157_0.out] at hSw; (try dsimp only at hSw); first | (go_simp; done) | (go_simp; with_reducible rfl)
        try simp only [Act.put, List.setIfInBounds_toArray, List.set_cons_zero, List.set_cons_succ]
        refine heldp_done (by kernel_rfl) ?_
        try clear hHeld
        clear HSg157_0
        try clear Sg157_0
        have HU := Lib.hid (hA.out.fr0 HF.out)
        have x0 := HF.out.cell e0 (fun f => f)
        have x1 := HF.out.cell e1 (fun f => f)
        have x2 := HF.out.cell e2 (fun f => f)
        have x3 := HF.out.cell e3 (fun f => f)
        have x4 := HF.out.cell e4 (fun f => f)
        have x5 := HF.out.cell e5 (fun f => f)
        have hF2 := hF.out.trans (afirst_some Hdk.out)
        clear Hmay hA hF t0 t1 t2 t3 e0 e1 e2 e3 e4 e5 HF
        subst hdn
        cases hm : dmay own a.seen ⟨dt, ds, dq, .slice dO dep.length dc, dep, dk, dx⟩
        · rw [hm, if_neg (by decide)] at hF2
          have HF2' := Lib.hid hF2
          clear hF2 hm x0 x1 x2 x3 x4 x5
          go_wp2
          go_roundw
          case rel => exact ⟨a, _, _, lc, _, oc, i + 1, by omega, rfl, rfl, by go_num, HU, hB, hC, HF2'⟩
          case measure => simp [intOf, vlen]; omega
        · rw [hm, if_pos rfl] at hF2
          have HF2' := Lib.hid hF2
          have Hm := Lib.hid hm
          clear hF2 hm
          obtain ⟨w4, hw4⟩ : ∃ w4, wc.alloc (.cells #[.int .i64 dt, .int .i64 ds, .int .i64 dq, .slice dO dep.length dc, .string dk, .string dx] 46) = w4 := ⟨_, rfl⟩
          have hb4 : w4.heap[wc.heap.size]? = some (.cells #[.int .i64 dt, .int .i64 ds, .int .i64 dq, .slice dO dep.length dc, .string dk, .string dx] 46 (0, 0)) := by rw [← hw4]; exact World.alloc_heap_new wc _
          have HFU : Hid (Fr no wc w4) := by rw [← hw4]; exact Lib.hid ((Fr.refl no wc).alloc _)
          have A4 := Lib.hid (HU.out.fr0 HFU.out)
          have hT4 := A4.out.tk
          have htb : w.heap.size < wc.heap.size := (Array.getElem?_eq_some_iff.1 HU.out.tk).1
          have HW4 := Lib.hid hw4
          clear hw4
          go_upto_region 8 with (fail)
          rw [HW4.out]
          clear HW4 x0 x1 x2 x3 x4 x5
          have t0 : w4.cell? ⟨w.heap.size, 0, none⟩ = some (.int .i64 own) := cell_of_block hT4 rfl
          have t1 : w4.cell? ⟨w.heap.size, 1, none⟩ = some (.int .i64 a.next) := cell_of_block hT4 rfl
          have t2 : w4.cell? ⟨w.heap.size, 2, none⟩ = some (.slice so2 a.seen.length sc2) := cell_of_block hT4 rfl
          have d0 : w4.cell? ⟨wc.heap.size, 0, none⟩ = some (.int .i64 dt) := cell_of_block hb4 rfl
          have d1 : w4.cell? ⟨wc.heap.size, 1, none⟩ = some (.int .i64 ds) := cell_of_block hb4 rfl
          have d2 : w4.cell? ⟨wc.heap.size, 2, none⟩ = some (.int .i64 dq) := cell_of_block hb4 rfl
          have g2 : w4.frozen? ⟨wc.heap.size, 2, none⟩ = false := frozen_of_block hb4
          have hg := vget_ok hB.out.sk own
          have hget := ref_get (.slice so2 a.seen.length sc2) a.seen own w4 A4.out.seen.rd
          obtain ⟨G, hG⟩ : ∃ G, vget a.seen own = G := ⟨_, rfl⟩
          rw [hG] at hg hget
          have hadd : IntKind.i64.wrap (G + 1) = G + 1 := IntWalk.i64_in _ (by omega)
          have Hget := Lib.hid hget
          have Hb4 := Lib.hid hb4
          clear hget hb4 hT4
          by_cases hso : ds = own
          · have hso2 := hso.symm
            clear hso
            subst hso2
            obtain ⟨Q, hQ⟩ : ∃ Q, G + 1 = Q := ⟨_, rfl⟩
            obtain ⟨w5, hw5⟩ : ∃ w5, w4.setCell ⟨wc.heap.size, 2, none⟩ (.int .i64 Q) = w5 := ⟨_, rfl⟩
            rw [hQ] at hadd
            have hfx : dfix own a.seen ⟨dt, own, dq, .slice dO dep.length dc, dep, dk, dx⟩ = ⟨dt, own, Q, .slice dO dep.length dc, dep, dk, dx⟩ := by unfold dfix; dsimp only; rw [if_pos rfl, hG, hQ]
            have hf5 : Fr (fun i => i = wc.heap.size) w4 w5 := by rw [← hw5]; exact (Fr.refl (fun i => i = wc.heap.size) w4).setCell (p := ⟨wc.heap.size, 2, none⟩) (fun _ => rfl) _
            have F5 := Lib.hid (Fr.trans HFU.out hf5 (fun i hi e => by omega))
            have B5 : Hid (w5.heap[wc.heap.size]? = some (.cells #[.int .i64 dt, .int .i64 own, .int .i64 Q, .slice dO dep.length dc, .string dk, .string dx] 46 (0, 0))) := by
              rw [← hw5]; exact Lib.hid (by simpa using heap_setC (j := 2) (.int .i64 Q) Hb4.out)
            have Hfx := Lib.hid hfx
            clear hfx hf5 hG
            go_wp2_with fail
            refine (show Calls _ _ #[.slice so2 a.seen.length sc2, .int .i64 own] w4 _ from Hget.out).mono ?_
            rintro e w' ⟨rfl, rfl⟩
            have A5 := Lib.hid (HU.out.fr0 F5.out)
            have s0 : w5.cell? ⟨w.heap.size, 0, none⟩ = some (.int .i64 own) := cell_of_block A5.out.tk rfl
            have s1 : w5.cell? ⟨w.heap.size, 1, none⟩ = some (.int .i64 a.next) := cell_of_block A5.out.tk rfl
            have s2 : w5.cell? ⟨w.heap.size, 2, none⟩ = some (.slice so2 a.seen.length sc2) := cell_of_block A5.out.tk rfl
            have m0 : w5.cell? ⟨wc.heap.size, 0, none⟩ = some (.int .i64 dt) := cell_of_block B5.out rfl
            have m1 : w5.cell? ⟨wc.heap.size, 1, none⟩ = some (.int .i64 own) := cell_of_block B5.out rfl
            have m2 : w5.cell? ⟨wc.heap.size, 2, none⟩ = some (.int .i64 Q) := cell_of_block B5.out rfl
            have m3 : w5.cell? ⟨wc.heap.size, 3, none⟩ = some (.slice dO dep.length dc) := cell_of_block B5.out rfl
            have m4 : w5.cell? ⟨wc.heap.size, 4, none⟩ = some (.string dk) := cell_of_block B5.out rfl
            have m5 : w5.cell? ⟨wc.heap.size, 5, none⟩ = some (.string dx) := cell_of_block B5.out rfl
            obtain ⟨j0, hj0, jz0, jz1, jz2⟩ := info_parts (show (Try.prog.info? 78).map (fun i => (i.zero, i.size, i.bytes)) = some (some (.agg #[.int .i64 0, .int .i64 0, .int .i64 0, .int .i64 0, .slice none 0 0, .string ByteArray.empty, .string ByteArray.empty]), 7, 88) by kernel_rfl)
            have hlit := rd_lit1 w5 78 [.int .i64 a.next, .int .i64 dt, .int .i64 own, .int .i64 Q, .slice dO dep.length dc, .string dk, .string dx]
            have Hlit := Lib.hid hlit
            have Hlf : Hid (Fr no w5 (w5.alloc (.cells #[.int .i64 a.next, .int .i64 dt, .int .i64 own, .int .i64 Q, .slice dO dep.length dc, .string dk, .string dx] 78))) := Lib.hid ((Fr.refl no w5).alloc _)
            have hocnt : a.out.length ≤ 1000 := by have := hB.out.cnt; omega
            clear hlit
            go_wp2_with (at_builtin; refine wpList_append_all (w5.alloc (.cells #[.int .i64 a.next, .int .i64 dt, .int .i64 own, .int .i64 Q, .slice dO dep.length dc, .string dk, .string dx] 78)) rfl _ _ 51 rfl 78 j0 _ 7 88 Try.underlying51 hj0 jz0 jz1 jz2 rfl (by decide) _ _ _ rfl (A5.out.out.fr Hlf.out (fun _ _ f => f)) _ _ _ rfl Hlit.out (by simp [Value.oneCell']) (by unfold maxLen; omega) (by omega) ?_)
            intro ao6 cap6 w6 hs6 hf6 ho6 _
            have A6 := Lib.hid (AdI.app (x := (a.next, ⟨dt, own, Q, .slice dO dep.length dc, dep, dk, dx⟩)) A5.out hs6 hf6 (by simpa using ho6))
            have B6 : Hid (w6.heap[wc.heap.size]? = some (.cells #[.int .i64 dt, .int .i64 own, .int .i64 Q, .slice dO dep.length dc, .string dk, .string dx] 46 (0, 0))) :=
              Lib.hid (hf6.heap (Hlf.out.heap B5.out (fun f => f)) (fun e => by have := HU.out.out.lt _ e; omega))
            obtain ⟨N1, hN1⟩ : ∃ N1, a.next + 1 = N1 := ⟨_, rfl⟩
            have hnadd : IntKind.i64.wrap (a.next + 1) = N1 := by rw [← hN1]; exact IntWalk.i64_in _ (by have := hB.out.nx; omega)
            obtain ⟨w7, hw7⟩ : ∃ w7, w6.setCell ⟨w.heap.size, 1, none⟩ (.int .i64 N1) = w7 := ⟨_, rfl⟩
            have A7 : Hid (AdR10 w w7 own (.slice so seen.length sc) ⟨N1, a.seen, a.left, a.out ++ [(a.next, ⟨dt, own, Q, .slice dO dep.length dc, dep, dk, dx⟩)]⟩ (.slice so2 a.seen.length sc2) (.slice (some ⟨g, off, none⟩) a.left.length lc) (.slice ao6 (a.out.length + 1) cap6) (.slice a0 n0 c0)) := by
              rw [← hw7]; exact Lib.hid (A6.out.setNext N1)
            have B7 : Hid (w7.heap[wc.heap.size]? = some (.cells #[.int .i64 dt, .int .i64 own, .int .i64 Q, .slice dO dep.length dc, .string dk, .string dx] 46 (0, 0))) := by
              rw [← hw7]; exact Lib.hid (((Fr.refl (fun i => i = w.heap.size) w6).setCell (p := ⟨w.heap.size, 1, none⟩) (fun _ => rfl) _).heap B6.out (by omega))
            have c6 : w6.cell? ⟨w.heap.size, 1, none⟩ = some (.int .i64 a.next) := cell_of_block A6.out.tk rfl
            have z6 : w6.frozen? ⟨w.heap.size, 1, none⟩ = false := frozen_of_block A6.out.tk
            have hnadd2 : wrap64 (a.next + 1) = N1 := by rw [← hN1]; unfold wrap64; have := hB.out.nx; omega
            have HN1 := Lib.hid hN1
            clear hs6 hf6 ho6 Hlit Hlf s0 s1 s2 m0 m1 m2 m3 m4 m5 hj0 jz0 jz1 jz2 A6 B6 hN1 A5 B5 F5
            have t2 : w7.cell? ⟨w.heap.size, 2, none⟩ = some (.slice so2 a.seen.length sc2) := cell_of_block A7.out.tk rfl
            have m1 : w7.cell? ⟨wc.heap.size, 1, none⟩ = some (.int .i64 own) := cell_of_block B7.out rfl
            have m2 : w7.cell? ⟨wc.heap.size, 2, none⟩ = some (.int .i64 Q) := cell_of_block B7.out rfl
            have hwith := ref_with (.slice so2 a.seen.length sc2) a.seen own Q w7 A7.out.seen.rd (by have := hB.out.sl; omega)
            have Hwith := Lib.hid hwith
            clear hwith
            go_wp2_with fail
            refine Hwith.out.mono ?_
            rintro e w8 ⟨v8, rfl, hm8⟩
            obtain ⟨so8, sc8, rfl, _, _⟩ := hm8.cap
            obtain ⟨w9, hw9⟩ : ∃ w9, w8.setCell ⟨w.heap.size, 2, none⟩ (.slice so8 (vwith a.seen own Q).length sc8) = w9 := ⟨_, rfl⟩
            have A9 : Hid (AdR10 w w9 own (.slice so seen.length sc) ⟨N1, vwith a.seen own Q, a.left, a.out ++ [(a.next, ⟨dt, own, Q, .slice dO dep.length dc, dep, dk, dx⟩)]⟩ (.slice so8 (vwith a.seen own Q).length sc8) (.slice (some ⟨g, off, none⟩) a.left.length lc) (.slice ao6 (a.out.length + 1) cap6) (.slice a0 n0 c0)) := by
              rw [← hw9]; exact Lib.hid (A7.out.setSeen hm8)
            have c8 : w8.cell? ⟨w.heap.size, 2, none⟩ = some (.slice so2 a.seen.length sc2) := cell_of_block (hm8.fr.heap A7.out.tk (fun f => f)) rfl
            have z8 : w8.frozen? ⟨w.heap.size, 2, none⟩ = false := frozen_of_block (hm8.fr.heap A7.out.tk (fun f => f))
            have hdel := ref_without (.slice (some ⟨g, off, none⟩) a.left.length lc) a.left i w9 A9.out.left.rd (fun d hd => Rd.fr (hB.out.lk d hd).1 A9.out.fr (fun _ _ _ f => f)) hlt (by have := hB.out.cnt; omega)
            rw [show a.left.length - 1 = (a.left.eraseIdx i).length by rw [List.length_eraseIdx_of_lt hlt]] at hdel
            have Hdel := Lib.hid hdel
            generalize hel : (a.left.eraseIdx i).length = el at *
            have Hel := Lib.hid hel
            generalize hvl : (vwith a.seen own Q).length = vl at *
            have Hvl := Lib.hid hvl
            clear hw7 c6 z6 hnadd hnadd2 t2 m1 m2 hm8 A7 B7 Hwith hdel hel hvl
            go_wp2_with fail
            refine (show Calls _ _ #[.slice (some ⟨g, off, none⟩) a.left.length lc, .int .i64 i] w9 _ from Hdel.out).mono ?_
            rintro e w10 ⟨ao10, cap10, rfl, hO10⟩
            have A10 : Hid (AdR10 w w10 own (.slice so seen.length sc) ⟨N1, vwith a.seen own Q, a.left.eraseIdx i, a.out ++ [(a.next, ⟨dt, own, Q, .slice dO dep.length dc, dep, dk, dx⟩)]⟩ (.slice so8 vl sc8) (.slice ao10 el cap10) (.slice ao6 (a.out.length + 1) cap6) (.slice a0 n0 c0)) :=
              Lib.hid (AdI.delO A9.out (left' := a.left.eraseIdx i) (by rw [Hel.out]; exact hO10))
            have hst : astep own a i ⟨dt, own, dq, .slice dO dep.length dc, dep, dk, dx⟩ = ⟨N1, vwith a.seen own Q, a.left.eraseIdx i, a.out ++ [(a.next, ⟨dt, own, Q, .slice dO dep.length dc, dep, dk, dx⟩)]⟩ := by
              unfold astep; rw [Hfx.out]; dsimp only; rw [HN1.out]
            have hP10 := hB.out.step Hdk.out Hm.out
            have hC10 := hC.out
            rw [← show (a.left.eraseIdx i).length + 1 = a.left.length by rw [List.length_eraseIdx_of_lt hlt]; omega, ago_some HF2'.out, hst] at hC10
            rw [hst] at hP10
            have HP10 := Lib.hid hP10
            have HC10 := Lib.hid hC10
            clear hO10 hst hP10 hC10 Hdel A9 c8 z8 hw9
            go_wp2_with fail
            go_roundw
            case rel =>
              refine ⟨_, .slice so8 vl sc8, ao10, cap10, ao6, cap6, 0, Nat.zero_le _, ?_, ?_, rfl, A10, HP10, HC10, Lib.hid rfl⟩
              · rw [Hel.out]
              · simp
            case measure => simp [vlen, intOf]; have := List.length_eraseIdx_of_lt hlt; have := Hel.out; have := hB.out.cnt; omega
          · have hfx : dfix own a.seen ⟨dt, ds, dq, .slice dO dep.length dc, dep, dk, dx⟩ = ⟨dt, ds, dq, .slice dO dep.length dc, dep, dk, dx⟩ := by unfold dfix; rw [if_neg hso]
            have Hfx := Lib.hid hfx
            have F5 := HFU
            have B5 := Hb4
            clear hfx hG hadd Hget
            generalize w4 = w5 at *
            have A5 := Lib.hid (HU.out.fr0 F5.out)
            have s0 : w5.cell? ⟨w.heap.size, 0, none⟩ = some (.int .i64 own) := cell_of_block A5.out.tk rfl
            have s1 : w5.cell? ⟨w.heap.size, 1, none⟩ = some (.int .i64 a.next) := cell_of_block A5.out.tk rfl
            have s2 : w5.cell? ⟨w.heap.size, 2, none⟩ = some (.slice so2 a.seen.length sc2) := cell_of_block A5.out.tk rfl
            have m0 : w5.cell? ⟨wc.heap.size, 0, none⟩ = some (.int .i64 dt) := cell_of_block B5.out rfl
            have m1 : w5.cell? ⟨wc.heap.size, 1, none⟩ = some (.int .i64 ds) := cell_of_block B5.out rfl
            have m2 : w5.cell? ⟨wc.heap.size, 2, none⟩ = some (.int .i64 dq) := cell_of_block B5.out rfl
            have m3 : w5.cell? ⟨wc.heap.size, 3, none⟩ = some (.slice dO dep.length dc) := cell_of_block B5.out rfl
            have m4 : w5.cell? ⟨wc.heap.size, 4, none⟩ = some (.string dk) := cell_of_block B5.out rfl
            have m5 : w5.cell? ⟨wc.heap.size, 5, none⟩ = some (.string dx) := cell_of_block B5.out rfl
            obtain ⟨j0, hj0, jz0, jz1, jz2⟩ := info_parts (show (Try.prog.info? 78).map (fun i => (i.zero, i.size, i.bytes)) = some (some (.agg #[.int .i64 0, .int .i64 0, .int .i64 0, .int .i64 0, .slice none 0 0, .string ByteArray.empty, .string ByteArray.empty]), 7, 88) by kernel_rfl)
            have hlit := rd_lit1 w5 78 [.int .i64 a.next, .int .i64 dt, .int .i64 ds, .int .i64 dq, .slice dO dep.length dc, .string dk, .string dx]
            have Hlit := Lib.hid hlit
            have Hlf : Hid (Fr no w5 (w5.alloc (.cells #[.int .i64 a.next, .int .i64 dt, .int .i64 ds, .int .i64 dq, .slice dO dep.length dc, .string dk, .string dx] 78))) := Lib.hid ((Fr.refl no w5).alloc _)
            have hocnt : a.out.length ≤ 1000 := by have := hB.out.cnt; omega
            clear hlit
            go_wp2_with (at_builtin; refine wpList_append_all (w5.alloc (.cells #[.int .i64 a.next, .int .i64 dt, .int .i64 ds, .int .i64 dq, .slice dO dep.length dc, .string dk, .string dx] 78)) rfl _ _ 51 rfl 78 j0 _ 7 88 Try.underlying51 hj0 jz0 jz1 jz2 rfl (by decide) _ _ _ rfl (A5.out.out.fr Hlf.out (fun _ _ f => f)) _ _ _ rfl Hlit.out (by simp [Value.oneCell']) (by unfold maxLen; omega) (by omega) ?_)
            intro ao6 cap6 w6 hs6 hf6 ho6 _
            have A6 := Lib.hid (AdI.app (x := (a.next, ⟨dt, ds, dq, .slice dO dep.length dc, dep, dk, dx⟩)) A5.out hs6 hf6 (by simpa using ho6))
            have B6 : Hid (w6.heap[wc.heap.size]? = some (.cells #[.int .i64 dt, .int .i64 ds, .int .i64 dq, .slice dO dep.length dc, .string dk, .string dx] 46 (0, 0))) :=
              Lib.hid (hf6.heap (Hlf.out.heap B5.out (fun f => f)) (fun e => by have := HU.out.out.lt _ e; omega))
            obtain ⟨N1, hN1⟩ : ∃ N1, a.next + 1 = N1 := ⟨_, rfl⟩
            have hnadd : IntKind.i64.wrap (a.next + 1) = N1 := by rw [← hN1]; exact IntWalk.i64_in _ (by have := hB.out.nx; omega)
            obtain ⟨w7, hw7⟩ : ∃ w7, w6.setCell ⟨w.heap.size, 1, none⟩ (.int .i64 N1) = w7 := ⟨_, rfl⟩
            have A7 : Hid (AdR10 w w7 own (.slice so seen.length sc) ⟨N1, a.seen, a.left, a.out ++ [(a.next, ⟨dt, ds, dq, .slice dO dep.length dc, dep, dk, dx⟩)]⟩ (.slice so2 a.seen.length sc2) (.slice (some ⟨g, off, none⟩) a.left.length lc) (.slice ao6 (a.out.length + 1) cap6) (.slice a0 n0 c0)) := by
              rw [← hw7]; exact Lib.hid (A6.out.setNext N1)
            have B7 : Hid (w7.heap[wc.heap.size]? = some (.cells #[.int .i64 dt, .int .i64 ds, .int .i64 dq, .slice dO dep.length dc, .string dk, .string dx] 46 (0, 0))) := by
              rw [← hw7]; exact Lib.hid (((Fr.refl (fun i => i = w.heap.size) w6).setCell (p := ⟨w.heap.size, 1, none⟩) (fun _ => rfl) _).heap B6.out (by omega))
            have c6 : w6.cell? ⟨w.heap.size, 1, none⟩ = some (.int .i64 a.next) := cell_of_block A6.out.tk rfl
            have z6 : w6.frozen? ⟨w.heap.size, 1, none⟩ = false := frozen_of_block A6.out.tk
            have hnadd2 : wrap64 (a.next + 1) = N1 := by rw [← hN1]; unfold wrap64; have := hB.out.nx; omega
            have HN1 := Lib.hid hN1
            clear hs6 hf6 ho6 Hlit Hlf s0 s1 s2 m0 m1 m2 m3 m4 m5 hj0 jz0 jz1 jz2 A6 B6 hN1 A5 B5 F5
            have t2 : w7.cell? ⟨w.heap.size, 2, none⟩ = some (.slice so2 a.seen.length sc2) := cell_of_block A7.out.tk rfl
            have m1 : w7.cell? ⟨wc.heap.size, 1, none⟩ = some (.int .i64 ds) := cell_of_block B7.out rfl
            have m2 : w7.cell? ⟨wc.heap.size, 2, none⟩ = some (.int .i64 dq) := cell_of_block B7.out rfl
            have hwith := ref_with (.slice so2 a.seen.length sc2) a.seen ds dq w7 A7.out.seen.rd (by have := hB.out.sl; omega)
            have Hwith := Lib.hid hwith
            clear hwith
            go_wp2_with fail
            refine Hwith.out.mono ?_
            rintro e w8 ⟨v8, rfl, hm8⟩
            obtain ⟨so8, sc8, rfl, _, _⟩ := hm8.cap
            obtain ⟨w9, hw9⟩ : ∃ w9, w8.setCell ⟨w.heap.size, 2, none⟩ (.slice so8 (vwith a.seen ds dq).length sc8) = w9 := ⟨_, rfl⟩
            have A9 : Hid (AdR10 w w9 own (.slice so seen.length sc) ⟨N1, vwith a.seen ds dq, a.left, a.out ++ [(a.next, ⟨dt, ds, dq, .slice dO dep.length dc, dep, dk, dx⟩)]⟩ (.slice so8 (vwith a.seen ds dq).length sc8) (.slice (some ⟨g, off, none⟩) a.left.length lc) (.slice ao6 (a.out.length + 1) cap6) (.slice a0 n0 c0)) := by
              rw [← hw9]; exact Lib.hid (A7.out.setSeen hm8)
            have c8 : w8.cell? ⟨w.heap.size, 2, none⟩ = some (.slice so2 a.seen.length sc2) := cell_of_block (hm8.fr.heap A7.out.tk (fun f => f)) rfl
            have z8 : w8.frozen? ⟨w.heap.size, 2, none⟩ = false := frozen_of_block (hm8.fr.heap A7.out.tk (fun f => f))
            have hdel := ref_without (.slice (some ⟨g, off, none⟩) a.left.length lc) a.left i w9 A9.out.left.rd (fun d hd => Rd.fr (hB.out.lk d hd).1 A9.out.fr (fun _ _ _ f => f)) hlt (by have := hB.out.cnt; omega)
            rw [show a.left.length - 1 = (a.left.eraseIdx i).length by rw [List.length_eraseIdx_of_lt hlt]] at hdel
            have Hdel := Lib.hid hdel
            generalize hel : (a.left.eraseIdx i).length = el at *
            have Hel := Lib.hid hel
            generalize hvl : (vwith a.seen ds dq).length = vl at *
            have Hvl := Lib.hid hvl
            clear hw7 c6 z6 hnadd hnadd2 t2 m1 m2 hm8 A7 B7 Hwith hdel hel hvl
            go_wp2_with fail
            refine (show Calls _ _ #[.slice (some ⟨g, off, none⟩) a.left.length lc, .int .i64 i] w9 _ from Hdel.out).mono ?_
            rintro e w10 ⟨ao10, cap10, rfl, hO10⟩
            have A10 : Hid (AdR10 w w10 own (.slice so seen.length sc) ⟨N1, vwith a.seen ds dq, a.left.eraseIdx i, a.out ++ [(a.next, ⟨dt, ds, dq, .slice dO dep.length dc, dep, dk, dx⟩)]⟩ (.slice so8 vl sc8) (.slice ao10 el cap10) (.slice ao6 (a.out.length + 1) cap6) (.slice a0 n0 c0)) :=
              Lib.hid (AdI.delO A9.out (left' := a.left.eraseIdx i) (by rw [Hel.out]; exact hO10))
            have hst : astep own a i ⟨dt, ds, dq, .slice dO dep.length dc, dep, dk, dx⟩ = ⟨N1, vwith a.seen ds dq, a.left.eraseIdx i, a.out ++ [(a.next, ⟨dt, ds, dq, .slice dO dep.length dc, dep, dk, dx⟩)]⟩ := by
              unfold astep; rw [Hfx.out]; dsimp only; rw [HN1.out]
            have hP10 := hB.out.step Hdk.out Hm.out
            have hC10 := hC.out
            rw [← show (a.left.eraseIdx i).length + 1 = a.left.length by rw [List.length_eraseIdx_of_lt hlt]; omega, ago_some HF2'.out, hst] at hC10
            rw [hst] at hP10
            have HP10 := Lib.hid hP10
            have HC10 := Lib.hid hC10
            clear hO10 hst hP10 hC10 Hdel A9 c8 z8 hw9
            go_wp2_with fail
            go_roundw
            case rel =>
              refine ⟨_, .slice so8 vl sc8, ao10, cap10, ao6, cap6, 0, Nat.zero_le _, ?_, ?_, rfl, A10, HP10, HC10, Lib.hid rfl⟩
              · rw [Hel.out]
              · simp
            case measure => simp [vlen, intOf]; have := List.length_eraseIdx_of_lt hlt; have := Hel.out; have := hB.out.cnt; omega
      · obtain rfl : i = a.left.length := by omega
        have hnone := hF.out.trans (afirst_end (Nat.le_refl _))
        have haR := (ago_none hnone a.left.length).symm.trans hC.out
        subst haR
        obtain ⟨w5, hw5⟩ : ∃ w5, U.setCell ⟨w.heap.size, 3, none⟩ (.slice none 0 0) = w5 := ⟨_, rfl⟩
        have L5 : Hid (LtR10 w w5 own (.slice so seen.length sc) a (.slice so2 a.seen.length sc2) (.slice lo a.left.length lc) (.slice oo a.out.length oc) (.slice none 0 0) []) := by rw [← hw5]; exact Lib.hid hA.out.ends
        have u3 : U.cell? ⟨w.heap.size, 3, none⟩ = some (.slice a0 n0 c0) := cell_of_block hA.out.tk rfl
        have z3 : U.frozen? ⟨w.heap.size, 3, none⟩ = false := frozen_of_block hA.out.tk
        have hlcnt : a.left.length ≤ 1000 := by have := hB.out.cnt; omega
        clear hA hF hC hnone
        go_wp2_with fail
        go_loopw [10] (fun iv wr => ∃ (k : Nat) (acc : List Dr) (tb : Option Addr) (tc : Nat), k ≤ a.left.length ∧ iv = .int .i64 k ∧ acc.length ≤ k ∧ Hid (LtR10 w wr own (.slice so seen.length sc) a (.slice so2 a.seen.length sc2) (.slice lo a.left.length lc) (.slice oo a.out.length oc) (.slice tb acc.length tc) acc) ∧ Hid (∀ x ∈ acc, x ∈ a.left) ∧ Hid (rlate own a.seen [] a.left [] = rlate own a.seen (a.left.take k) (a.left.drop k) acc)) (fun iv _ => a.left.length - (intOf iv).toNat)
        case atStart => exact ⟨0, [], none, 0, Nat.zero_le _, rfl, Nat.le_refl _, L5, Lib.hid (fun x h => by simp at h), Lib.hid rfl⟩
        clear L5 hw5 u3 z3
        case round =>
          obtain ⟨k, acc, tb, tc, hk, rfl, hak, hL, hM, hE⟩ := hrel
          generalize wr = V at *
          by_cases hlt : k < a.left.length
          · obtain ⟨d, hdk⟩ : ∃ x, a.left[k]? = some x := ⟨a.left[k], by simp [hlt]⟩
            obtain ⟨hdo, hdq0, hdq1⟩ := hB.out.lk d (List.mem_of_getElem? hdk)
            obtain ⟨g, off, c', he, e0, e1, e2, e3, e4, e5⟩ := drs_cells hL.out.left.rd hdk
            cases he
            have t0 : V.cell? ⟨w.heap.size, 0, none⟩ = some (.int .i64 own) := cell_of_block hL.out.tk rfl
            have t1 : V.cell? ⟨w.heap.size, 1, none⟩ = some (.int .i64 a.next) := cell_of_block hL.out.tk rfl
            have t2 : V.cell? ⟨w.heap.size, 2, none⟩ = some (.slice so2 a.seen.length sc2) := cell_of_block hL.out.tk rfl
            have t3 : V.cell? ⟨w.heap.size, 3, none⟩ = some (.slice tb acc.length tc) := cell_of_block hL.out.tk rfl
            have hgone := ref_gone own a.next (.slice so2 a.seen.length sc2) (.slice tb acc.length tc) (.slice (some ⟨g, off, none⟩) a.left.length lc) a.seen a.left k d V hL.out.seen.rd hL.out.left.rd (fun x hx => Rd.fr (hB.out.lk x hx).1 hL.out.fr (fun _ _ _ f => f)) hdk _ _ _ rfl
            have hacc1 : acc.length ≤ 1000 := by omega
            have hE2 := hE.out.trans (rlate_drop hdk acc)
            have hmem : ∀ x ∈ acc ++ [d], x ∈ a.left := fun x h => by
              rcases List.mem_append.1 h with h | h
              · exact hM.out x h
              · simp at h; subst h; exact List.mem_of_getElem? hdk
            have Hmem := Lib.hid hmem
            obtain ⟨dt, ds, dq, dv, dep, dk, dx⟩ := d
            obtain ⟨dO, dc, hdv, _, _⟩ := Rd.cap hdo
            dsimp only at *
            subst hdv
            unfold tkV at hgone
            have Hgone := Lib.hid hgone
            have HE2 := Lib.hid hE2
            clear hgone hdk hdo hE2 hE hmem
            go_wp2_with fail
            refine Hgone.out.mono ?_
            rintro e V2 ⟨rfl, hf4⟩
            have L4 := Lib.hid (hL.out.fr0 hf4)
            replace e0 := hf4.cell e0 (fun f => f)
            replace e1 := hf4.cell e1 (fun f => f)
            replace e2 := hf4.cell e2 (fun f => f)
            replace e3 := hf4.cell e3 (fun f => f)
            replace e4 := hf4.cell e4 (fun f => f)
            replace e5 := hf4.cell e5 (fun f => f)
            clear hf4 Hgone hL t0 t1 t2 t3
            cases hm : rgone own a.seen (a.left.take k) ⟨dt, ds, dq, .slice dO dep.length dc, dep, dk, dx⟩
            · rw [hm, if_neg (by decide)] at HE2
              clear hm
              have t3 : V2.cell? ⟨w.heap.size, 3, none⟩ = some (.slice tb acc.length tc) := cell_of_block L4.out.tk rfl
              obtain ⟨j0, hj0, jz0, jz1, jz2⟩ := info_parts (show (Try.prog.info? 46).map (fun i => (i.zero, i.size, i.bytes)) = some (some (.agg #[.int .i64 0, .int .i64 0, .int .i64 0, .slice none 0 0, .string ByteArray.empty, .string ByteArray.empty]), 6, 80) by kernel_rfl)
              generalize hdn : dep.length = dn at *
              go_upto_region 20 with (fail)
              obtain ⟨Sg487_0, HSg487_0⟩ : ∃ S : World → Prop, Hid (S = (fun w' => w'.cell? ⟨w.heap.size, 3, none⟩ = some (.slice tb acc.length tc) ∧ w'.cell? ⟨g, off + k * 6, none⟩ = some (.int .i64 dt) ∧ w'.cell? ⟨g, off + k * 6 + 1, none⟩ = some (.int .i64 ds) ∧ w'.cell? ⟨g, off + k * 6 + 2, none⟩ = some (.int .i64 dq) ∧ w'.cell? ⟨g, off + k * 6 + 3, none⟩ = some (.slice dO dn dc) ∧ w'.cell? ⟨g, off + k * 6 + 4, none⟩ = some (.string dk) ∧ w'.cell? ⟨g, off + k * 6 + 5, none⟩ = some (.string dx))) := ⟨_, Lib.hid rfl⟩
              obtain ⟨Sg487_1, HSg487_1⟩ : ∃ S : World → Prop, Hid (S = (fun _ => True)) := ⟨_, Lib.hid rfl⟩
              refine wp_heldp [9] (pickS [Sg487_0, Sg487_1]) (by kernel_rfl) ?_ (fun hHeld => ?_)
              · show Sg487_0 _; rw [HSg487_0.out]; exact ⟨t3, e0, e1, e2, e3, e4, e5⟩
              obtain ⟨wc, hwc⟩ : ∃ x, V2.drew = x := ⟨_, rfl⟩; rw [hwc] at hHeld; rw [hwc]; have HF : Hid (Fr no V2 wc) := (by rw [← hwc]; exact Lib.hid ((Fr.refl no V2).drewN 1)); clear hwc
              refine heldp_take (v := ?_) 0 0 rfl (by kernel_rfl) (.inl ⟨by rfl, ?_⟩) hHeld ?_
              rotate_left
              · intro w hSw; replace hSw : Sg487_0 w := hSw; rw [HSg487_0.out] at hSw; (try dsimp only at hSw); first | (go_simp; done) | (go_simp; with_reducible rfl)
              try simp only [Act.put, List.setIfInBounds_toArray, List.set_cons_zero, List.set_cons_succ]
              refine heldp_take (v := ?_) 1 0 rfl (by kernel_rfl) (.inl ⟨by rfl, ?_⟩) hHeld ?_
              rotate_left
              · intro w hSw; replace hSw : Sg487_0 w := hSw; rw [HSg487_0.out] at hSw; (try dsimp only at hSw); first | (go_simp; done) | (go_simp; with_reducible rfl)
              try simp only [Act.put, List.setIfInBounds_toArray, List.set_cons_zero, List.set_cons_succ]
              refine heldp_take (v := ?_) 2 0 rfl (by kernel_rfl) (.inl ⟨by rfl, ?_⟩) hHeld ?_
              rotate_left
              · intro w hSw; replace hSw : Sg487_0 w := hSw; rw [HSg487_0.out] at hSw; (try dsimp only at hSw); first | (go_simp; done) | (go_simp; with_reducible rfl)
              try simp only [Act.put, List.setIfInBounds_toArray, List.set_cons_zero, List.set_cons_succ]
              refine heldp_take (v := ?_) 3 0 rfl (by kernel_rfl) (.inl ⟨by rfl, ?_⟩) hHeld ?_
              rotate_left
              · intro w hSw; replace hSw : Sg487_0 w := hSw; rw [HSg487_0.out] at hSw; (try dsimp only at hSw); first | (go_simp; done) | (go_simp; with_reducible rfl)
              try simp only [Act.put, List.setIfInBounds_toArray, List.set_cons_zero, List.set_cons_succ]
              refine heldp_take (v := ?_) 4 0 rfl (by kernel_rfl) (.inl ⟨by rfl, ?_⟩) hHeld ?_
              rotate_left
              · intro w hSw; replace hSw : Sg487_0 w := hSw; rw [HSg487_0.out] at hSw; (try dsimp only at hSw); first | (go_simp; done) | (go_simp; with_reducible rfl)
              try simp only [Act.put, List.setIfInBounds_toArray, List.set_cons_zero, List.set_cons_succ]
              refine heldp_take (v := ?_) 5 0 rfl (by kernel_rfl) (.inl ⟨by rfl, ?_⟩) hHeld ?_
              rotate_left
              · intro w hSw; replace hSw : Sg487_0 w := hSw; rw [HSg487_0.out] at hSw; (try dsimp only at hSw); first | (go_simp; done) | (go_simp; with_reducible rfl)
              try simp only [Act.put, List.setIfInBounds_toArray, List.set_cons_zero, List.set_cons_succ]
              refine heldp_call 6 0 rfl (by kernel_rfl) (fun K hK => ?_)
              go_simp
              have hlit := rd_lit1 wc 46 [.int .i64 dt, .int .i64 ds, .int .i64 dq, .slice dO dn dc, .string dk, .string dx]
              obtain ⟨gd, hgd⟩ : ∃ x, wc.heap.size = x := ⟨_, rfl⟩
              have hfa : Fr no wc (wc.alloc (.cells #[.int .i64 dt, .int .i64 ds, .int .i64 dq, .slice dO dn dc, .string dk, .string dx] 46)) := (Fr.refl no wc).alloc _
              obtain ⟨wc, hwc⟩ : ∃ x, wc.alloc (.cells #[.int .i64 dt, .int .i64 ds, .int .i64 dq, .slice dO dn dc, .string dk, .string dx] 46) = x := ⟨_, rfl⟩
              rw [hgd, hwc]
              rw [hgd] at hlit
              have hlit2 : Rd wc 6 (.slice (some ⟨gd, 0, none⟩) 1 1) 1 [.int .i64 dt, .int .i64 ds, .int .i64 dq, .slice dO dn dc, .string dk, .string dx] := by rw [← hwc]; exact hlit
              rw [hwc] at hfa
              replace HF := Lib.hid (HF.out.trans' hfa)
              have D := Lib.hid hlit2
              clear hlit hlit2 hfa hwc hgd
              refine hK.out _ _ ?_ (fun hHeld' => ?_)
              · show Sg487_0 _; rw [HSg487_0.out]; first | exact ⟨HF.out.cell t3 (fun f => f), HF.out.cell e0 (fun f => f), HF.out.cell e1 (fun f => f), HF.out.cell e2 (fun f => f), HF.out.cell e3 (fun f => f), HF.out.cell e4 (fun f => f), HF.out.cell e5 (fun f => f)⟩ | exact S6.out
              clear hK K hHeld
              have hHeld := hHeld'
              clear hHeld'
              try simp only [Act.put, List.setIfInBounds_toArray, List.set_cons_zero, List.set_cons_succ]
              refine heldp_call 7 0 rfl (by kernel_rfl) (fun K hK => ?_)
              rw [if_pos (by rfl)]
              have L6 := Lib.hid (L4.out.fr0 HF.out)
              obtain ⟨v', w6, hrun, hs6, hf6, ho6, _⟩ := run_append_all (P := Try.prog) wc 32 32 46 j0 _ 6 80 Try.underlying32 hj0 jz0 jz1 jz2 rfl (by decide) _ _ _ L6.out.acc _ _ _ D.out (by simp [Value.oneCell']) (by unfold maxLen; omega) (by omega)
              obtain ⟨ao6, cap6, rfl, _, _⟩ := hs6.cap
              refine wp_append rfl rfl rfl hrun ?_
              have hne : ¬ (Value.slice tb acc.length tc).ownBlock = some w.heap.size := fun e => by have := L6.out.tvb _ e; omega
              have hng : ¬ (Value.slice tb acc.length tc).ownBlock = some g := fun e => L6.out.left.2 (by omega) g rfl (.inl e)
              have S6 := Lib.hid (And.intro (hf6.cell (p := ⟨w.heap.size, 3, none⟩) (HF.out.cell t3 (fun f => f)) hne) (And.intro (hf6.cell (p := ⟨g, _, none⟩) (HF.out.cell e0 (fun f => f)) hng) (And.intro (hf6.cell (p := ⟨g, _, none⟩) (HF.out.cell e1 (fun f => f)) hng) (And.intro (hf6.cell (p := ⟨g, _, none⟩) (HF.out.cell e2 (fun f => f)) hng) (And.intro (hf6.cell (p := ⟨g, _, none⟩) (HF.out.cell e3 (fun f => f)) hng) (And.intro (hf6.cell (p := ⟨g, _, none⟩) (HF.out.cell e4 (fun f => f)) hng) (hf6.cell (p := ⟨g, _, none⟩) (HF.out.cell e5 (fun f => f)) hng)))))))
              have L7 : Hid (LtR10 w (w6.setCell ⟨w.heap.size, 3, none⟩ (.slice ao6 (acc.length + 1) cap6)) own (.slice so seen.length sc) a (.slice so2 a.seen.length sc2) (.slice (some ⟨g, off, none⟩) a.left.length lc) (.slice oo a.out.length oc) (.slice ao6 (acc.length + 1) cap6) (acc ++ [⟨dt, ds, dq, .slice dO dep.length dc, dep, dk, dx⟩])) := Lib.hid (LtI.app' (x := ⟨dt, ds, dq, .slice dO dep.length dc, dep, dk, dx⟩) L6.out (by rw [hdn]; exact hs6) hf6 ho6)
              have z6 : w6.frozen? ⟨w.heap.size, 3, none⟩ = false := frozen_of_block (hf6.heap L6.out.tk hne)
              clear hs6 hf6 ho6 hrun hne hng D
              refine hK.out _ _ ?_ (fun hHeld' => ?_)
              · show Sg487_0 _; rw [HSg487_0.out]; first | exact ⟨HF.out.cell t3 (fun f => f), HF.out.cell e0 (fun f => f), HF.out.cell e1 (fun f => f), HF.out.cell e2 (fun f => f), HF.out.cell e3 (fun f => f), HF.out.cell e4 (fun f => f), HF.out.cell e5 (fun f => f)⟩ | exact S6.out
              clear hK K hHeld
              have hHeld := hHeld'
              clear hHeld'
              try simp only [Act.put, List.setIfInBounds_toArray, List.set_cons_zero, List.set_cons_succ]
              refine heldp_take (v := ?_) 8 0 rfl (by kernel_rfl) (.inl ⟨by rfl, ?_⟩) hHeld ?_
              rotate_left
              · intro w hSw; replace hSw : Sg487_0 w := hSw; rw [HSg487_0.out] at hSw; (try dsimp only at hSw); first | (go_simp; done) | (go_simp; with_reducible rfl)
              try simp only [Act.put, List.setIfInBounds_toArray, List.set_cons_zero, List.set_cons_succ]
              refine heldp_call 9 1 rfl (by kernel_rfl) (fun K hK => ?_)
              rw [if_pos (by rfl)]
              obtain ⟨w7, hw7⟩ : ∃ w7, w6.setCell ⟨w.heap.size, 3, none⟩ (.slice ao6 (acc.length + 1) cap6) = w7 := ⟨_, rfl⟩
              rw [hw7] at L7
              have c6 := S6.out.1
              go_simp
              refine hK.out _ _ ?_ (fun hHeld' => ?_)
              · show Sg487_1 _; rw [HSg487_1.out]; trivial
              clear hK K hHeld
              have hHeld := hHeld'
              clear hHeld'
              try simp only [Act.put, List.setIfInBounds_toArray, List.set_cons_zero, List.set_cons_succ]
              refine heldp_done (by kernel_rfl) ?_
              try clear hHeld
              clear HSg487_0
              try clear Sg487_0
              clear HSg487_1
              try clear Sg487_1
              clear t3 e0 e1 e2 e3 e4 e5 hj0 jz0 jz1 jz2 L4 L6 S6 HF
              subst hdn
              go_wp2
              go_roundw
              case rel => exact ⟨k + 1, acc ++ [⟨dt, ds, dq, .slice dO dep.length dc, dep, dk, dx⟩], ao6, cap6, by omega, by go_num, by simp; omega, by simpa using L7, Hmem, HE2⟩
              case measure => simp [intOf]; omega
            · rw [hm, if_pos rfl] at HE2
              clear hm e0 e1 e2 e3 e4 e5
              go_wp2
              go_roundw
              case rel => exact ⟨k + 1, acc, tb, tc, by omega, by go_num, by omega, L4, hM, HE2⟩
              case measure => simp [intOf]; omega
          · obtain rfl : k = a.left.length := by omega
            have hE2 := hE.out
            rw [List.drop_eq_nil_of_le (Nat.le_refl _), rlate, rlate_alate own a.seen a.left [] [] (fun x h => h) (fun x h => by simp at h)] at hE2
            have HE2 := Lib.hid hE2
            have t0 : V.cell? ⟨w.heap.size, 0, none⟩ = some (.int .i64 own) := cell_of_block hL.out.tk rfl
            have t1 : V.cell? ⟨w.heap.size, 1, none⟩ = some (.int .i64 a.next) := cell_of_block hL.out.tk rfl
            have t2 : V.cell? ⟨w.heap.size, 2, none⟩ = some (.slice so2 a.seen.length sc2) := cell_of_block hL.out.tk rfl
            have t3 : V.cell? ⟨w.heap.size, 3, none⟩ = some (.slice tb acc.length tc) := cell_of_block hL.out.tk rfl
            clear hE hE2
            obtain ⟨W1, hW1⟩ : ∃ W1, V.setCell ⟨w.heap.size + 1, 0, none⟩ (.int .i64 own) = W1 := ⟨_, rfl⟩
            obtain ⟨W2, hW2⟩ : ∃ W2, W1.setCell ⟨w.heap.size + 1, 1, none⟩ (.int .i64 a.next) = W2 := ⟨_, rfl⟩
            obtain ⟨W3, hW3⟩ : ∃ W3, W2.setCell ⟨w.heap.size + 1, 2, none⟩ (.slice so2 a.seen.length sc2) = W3 := ⟨_, rfl⟩
            obtain ⟨W4, hW4⟩ : ∃ W4, W3.setCell ⟨w.heap.size + 1, 3, none⟩ (.slice tb acc.length tc) = W4 := ⟨_, rfl⟩
            have r0 := hL.out.res
            have r1 : W1.heap[w.heap.size + 1]? = some (.cells #[.int .i64 own, .int .i64 0, .slice none 0 0, .slice none 0 0] 34 (0, 0)) := by rw [← hW1]; simpa using heap_setC (j := 0) (.int .i64 own) r0
            have r2 : W2.heap[w.heap.size + 1]? = some (.cells #[.int .i64 own, .int .i64 a.next, .slice none 0 0, .slice none 0 0] 34 (0, 0)) := by rw [← hW2]; simpa using heap_setC (j := 1) (.int .i64 a.next) r1
            have r3 : W3.heap[w.heap.size + 1]? = some (.cells #[.int .i64 own, .int .i64 a.next, .slice so2 a.seen.length sc2, .slice none 0 0] 34 (0, 0)) := by rw [← hW3]; simpa using heap_setC (j := 2) (.slice so2 a.seen.length sc2) r2
            have r4 : W4.heap[w.heap.size + 1]? = some (.cells #[.int .i64 own, .int .i64 a.next, .slice so2 a.seen.length sc2, .slice tb acc.length tc] 34 (0, 0)) := by rw [← hW4]; simpa using heap_setC (j := 3) (.slice tb acc.length tc) r3
            have F : ∀ (X Y : World) (j : Nat) (v : Value), X.setCell ⟨w.heap.size + 1, j, none⟩ v = Y → Fr (fun i => i = w.heap.size + 1) X Y := fun X Y j v h => by rw [← h]; exact (Fr.refl (fun i => i = w.heap.size + 1) X).setCell (p := ⟨w.heap.size + 1, j, none⟩) (fun _ => rfl) _
            have hF4 : Fr (fun i => i = w.heap.size + 1) V W4 := ((F _ _ _ _ hW1).trans' (F _ _ _ _ hW2)).trans' ((F _ _ _ _ hW3).trans' (F _ _ _ _ hW4))
            have HF4 := Lib.hid hF4
            have p0 : V.cell? ⟨w.heap.size + 1, 0, none⟩ = some (.int .i64 0) := cell_of_block r0 rfl
            have p1 : W1.cell? ⟨w.heap.size + 1, 1, none⟩ = some (.int .i64 0) := cell_of_block r1 rfl
            have p2 : W2.cell? ⟨w.heap.size + 1, 2, none⟩ = some (.slice none 0 0) := cell_of_block r2 rfl
            have p3 : W3.cell? ⟨w.heap.size + 1, 3, none⟩ = some (.slice none 0 0) := cell_of_block r3 rfl
            have q0 : V.frozen? ⟨w.heap.size + 1, 0, none⟩ = false := frozen_of_block r0
            have q1 : W1.frozen? ⟨w.heap.size + 1, 1, none⟩ = false := frozen_of_block r1
            have q2 : W2.frozen? ⟨w.heap.size + 1, 2, none⟩ = false := frozen_of_block r2
            have q3 : W3.frozen? ⟨w.heap.size + 1, 3, none⟩ = false := frozen_of_block r3
            have y0 : W4.cell? ⟨w.heap.size + 1, 0, none⟩ = some (.int .i64 own) := cell_of_block r4 rfl
            have y1 : W4.cell? ⟨w.heap.size + 1, 1, none⟩ = some (.int .i64 a.next) := cell_of_block r4 rfl
            have y2 : W4.cell? ⟨w.heap.size + 1, 2, none⟩ = some (.slice so2 a.seen.length sc2) := cell_of_block r4 rfl
            have y3 : W4.cell? ⟨w.heap.size + 1, 3, none⟩ = some (.slice tb acc.length tc) := cell_of_block r4 rfl
            clear r0 r1 r2 r3 r4 F hF4
            go_wp2
            try simp only [Exit.noGoto]
            refine bodyPost_ret (v := .tuple #[.agg #[.int .i64 own, .int .i64 a.next, .slice so2 a.seen.length sc2, .slice tb acc.length tc], .slice oo a.out.length oc]) ?_ ?_ ?_
            rotate_left
            · rfl
            rotate_left
            · simp [results, Try.results18, go_sem, y0, y1, y2, y3]
            rw [Hn1.out, HR.out]
            refine ⟨_, _, _, rfl, ⟨(hL.out.seen.fr HF4.out (fun g _ e => .inr (.inr e))).rd, ?_, (hL.out.out.fr HF4.out (fun g _ e => .inr (.inr e))).rd, hB.out, hL.out.fr.trans HF4.out (fun i hi e => by omega), hL.out.svo, fun g hg => by have := hL.out.tvb g hg; omega, fun g hg => by have := hL.out.ovb g hg; omega⟩⟩
            rw [HE2.out]
            exact (hL.out.acc.fr HF4.out (fun g hg e => by have := hL.out.tvb g hg; omega)).rd
end Go.Proofs.Ytdddgfienicaaaa
