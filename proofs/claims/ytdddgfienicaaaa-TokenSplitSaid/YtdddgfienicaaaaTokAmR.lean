/- TokenAdmit, walked. -/
import Derived.Test.YtdddgfienicaaaaTokFe
import Derived.Test.YtdddgfienicaaaaTokRiR
namespace Go.XL
open Go.RowKit Go.Shelf
set_option linter.unusedVariables false
/-- what both Admits give, as it is read -/
def AdQ (w w' : World) (own nx : Int) (us : List Int) (la : List Dr) (out : List (Int × Dr)) (un ln om : Nat) (e : Ending) : Prop :=
  ∃ uo uc lo lc oo oc, e = .returned (.tuple #[.agg #[.int .i64 own, .int .i64 nx, .slice uo un uc, .slice lo ln lc], .slice oo om oc]) ∧ Rd w' 1 (.slice uo un uc) un (us.map (Value.int .i64)) ∧ Rd w' 6 (.slice lo ln lc) ln (drCells la) ∧ Rd w' 7 (.slice oo om oc) om (slCells out) ∧
    (∀ d ∈ la, DrOk w d) ∧ (∀ x ∈ out, DrOk w x.2) ∧ Fr no w w'
theorem AdR.q {w w' : World} {own next : Int} {n : Nat} {R : AS} {sv0 sv tv ov : Value} {e : Ending} (h : AdR w w' own next n R sv0 sv tv ov) (he : e = .returned (.tuple #[tkV own R.next sv tv, ov])) {nx : Int} {us : List Int} {la : List Dr} {out : List (Int × Dr)} {un ln om : Nat}
    (h1 : R.next = nx) (h2 : R.seen = us) (h3 : alate own R.seen R.left [] = la) (h4 : R.out = out) (h5 : us.length = un) (h6 : la.length = ln) (h7 : out.length = om) : AdQ w w' own nx us la out un ln om e := by
  subst h1 h2 h3 h4 h5 h6 h7
  obtain ⟨uo, uc, rfl, _, _⟩ := h.seen.cap
  obtain ⟨lo, lc, rfl, _, _⟩ := h.late.cap
  obtain ⟨oo, oc, rfl, _, _⟩ := h.out.cap
  refine ⟨uo, uc, lo, lc, oo, oc, he, h.seen, h.late, h.out, fun d hd => ?_, h.p.ok, h.fr⟩
  rcases alate_mem _ _ d hd with h' | h'
  · exact (h.p.lk d h').1
  · simp at h'
theorem ago_left (own : Int) : ∀ (n : Nat) (a : AS), (ago own n a).left.length ≤ a.left.length
  | 0, a => Nat.le_refl _
  | n + 1, a => by
    rw [ago]
    split
    · exact Nat.le_refl _
    · rename_i i d h
      refine Nat.le_trans (ago_left own n _) ?_
      simp only [astep]
      exact List.length_eraseIdx_le _ _
end Go.XL
namespace Go.Proofs.Ytdddgfienicaaaa
open Go.RowKit Go.Shelf Go.XL
set_option linter.unusedVariables false
set_option linter.unusedSimpArgs false
attribute [local go_sem] Oper.semAt_some

set_option maxRecDepth 100000 in
set_option maxHeartbeats 8000000 in
theorem tokenAdmit_any (own next : Int) (sv v0 v1 : Value) (seen : List Int) (late l : List Dr) (w : World) (hs : IntsAt w sv seen) (h0 : DrsAt w v0 late) (h1 : DrsAt w v1 l) (hd : ∀ d ∈ late ++ l, DrOk w d) :
    Calls Try.prog 3 #[tkV own next sv v0, v1] w fun e w' => e = .returned (.bool true) ∧ Fr no w w' := by
  obtain ⟨so, sc, rfl, _, _⟩ := hs.cap
  obtain ⟨a0, c0, rfl, _, _⟩ := h0.cap
  obtain ⟨a1, c1, rfl, _, _⟩ := h1.cap
  have hdl : ∀ d ∈ late, DrOk w d := fun d h => hd d (by simp [h])
  have hd1 : ∀ d ∈ l, DrOk w d := fun d h => hd d (by simp [h])
  have Hgood := Lib.hid (fun (w' : World) (hf : Fr no w w') => lGood own next (.slice so seen.length sc) (.slice a0 late.length c0) (.slice a1 l.length c1) seen late l w' (hs.fr hf (fun _ _ _ f => f)) (Rd.fr h0 hf (fun _ _ _ f => f)) (Rd.fr h1 hf (fun _ _ _ f => f)) (fun d h => Rd.fr (hd d h) hf (fun _ _ _ f => f)))
  obtain ⟨R, hR⟩ : ∃ R, ago own (late.length + l.length) ⟨next, seen, late ++ l, []⟩ = R := ⟨_, rfl⟩
  obtain ⟨nx, hnx⟩ : ∃ nx, R.next = nx := ⟨_, rfl⟩
  obtain ⟨us, hus⟩ : ∃ us, R.seen = us := ⟨_, rfl⟩
  obtain ⟨la, hla⟩ : ∃ la, alate own R.seen R.left [] = la := ⟨_, rfl⟩
  obtain ⟨out, hout⟩ : ∃ out, R.out = out := ⟨_, rfl⟩
  obtain ⟨un, hun⟩ : ∃ un, us.length = un := ⟨_, rfl⟩
  obtain ⟨ln, hln⟩ : ∃ ln, la.length = ln := ⟨_, rfl⟩
  obtain ⟨om, hom⟩ : ∃ om, out.length = om := ⟨_, rfl⟩
  have hadm : GoodP own next seen late l → ∀ (w' : World) (hf : Fr no w w'), Calls Try.prog 17 #[.agg #[.int .i64 own, .int .i64 next, .slice so seen.length sc, .slice a0 late.length c0], .slice a1 l.length c1] w' fun e w2 => AdQ w' w2 own nx us la out un ln om e := fun hg w' hf =>
    (tAdmit own next _ _ _ seen late l w' (hs.fr hf (fun _ _ _ f => f)) (goodP_seen hg).1 (Rd.fr h0 hf (fun _ _ _ f => f)) (Rd.fr h1 hf (fun _ _ _ f => f)) (fun d h => Rd.fr (hd d h) hf (fun _ _ _ f => f)) (fun d h => (hg.dr d h).2.2) (by have := hg.n1; have := hg.n2; omega) (by have := hg.n3; omega) (goodP_seen hg).2.1 (by have := hg.nx; omega)).mono (fun e w2 ⟨sv', tv', ov', he, hq⟩ => by
      rw [hR] at he hq
      exact hq.q he hnx hus hla hout hun hln hom)
  have hradm : GoodP own next seen late l → ∀ (w' : World) (hf : Fr no w w') (lo : Option Addr) (lc : Nat) (bo : Option Addr) (bc : Nat), Rd w' 6 (.slice lo late.length lc) late.length (drCells late) → Rd w' 6 (.slice bo l.length bc) l.length (drCells l) →
      Calls Try.prog 18 #[.agg #[.int .i64 own, .int .i64 next, .slice so seen.length sc, .slice lo late.length lc], .slice bo l.length bc] w' fun e w2 => AdQ w' w2 own nx us la out un ln om e := fun hg w' hf lo lc bo bc hL hB =>
    (rAdmit own next _ _ _ seen late l w' (hs.fr hf (fun _ _ _ f => f)) (goodP_seen hg).1 hL hB (fun d h => Rd.fr (hd d h) hf (fun _ _ _ f => f)) (fun d h => (hg.dr d h).2.2) (by have := hg.n1; have := hg.n2; omega) (by have := hg.n3; omega) (goodP_seen hg).2.1 (by have := hg.nx; omega)).mono (fun e w2 ⟨sv', tv', ov', he, hq⟩ => by
      rw [hR] at he hq
      exact hq.q he hnx hus hla hout hun hln hom)
  have hlal : late.length ≤ 40 → l.length ≤ 40 → ln ≤ 80 := fun ha hb => by
    have h1 := alate_len (own := own) (seen := R.seen) R.left []
    rw [hla, hln] at h1
    have h2 := ago_left own (late.length + l.length) ⟨next, seen, late ++ l, []⟩
    rw [hR] at h2
    simp at h1 h2
    omega
  have hfew := fun (w' : World) (hf : Fr no w w') => lFewD (.slice a0 late.length c0) late w' (Rd.fr h0 hf (fun _ _ _ f => f)) (fun d h => Rd.fr (hdl d h) hf (fun _ _ _ f => f))
  have hof : late.length ≤ 40 → ∀ (w' : World) (hf : Fr no w w'), Calls Try.prog 12 #[.agg #[.int .i64 own, .int .i64 next, .slice so seen.length sc, .slice a0 late.length c0]] w' fun e w2 => ∃ ao cap, e = .returned (.agg #[.int .i64 own, .int .i64 next, .slice so seen.length sc, .slice ao late.length cap]) ∧ Rd w2 6 (.slice ao late.length cap) late.length (drCells late) ∧ Fr no w' w2 := fun hl w' hf =>
    (lOf own next (.slice so seen.length sc) (.slice a0 late.length c0) seen late w' (hs.fr hf (fun _ _ _ f => f)) (Rd.fr h0 hf (fun _ _ _ f => f)) (fun d h => Rd.fr (hdl d h) hf (fun _ _ _ f => f)) (by omega)).mono (fun e w2 ⟨ao, cap, he, hO⟩ => ⟨ao, cap, he, hO.rd, hO.fr⟩)
  have hofd : l.length ≤ 40 → ∀ (w' : World) (hf : Fr no w w'), Calls Try.prog 19 #[.slice a1 l.length c1] w' fun e w2 => ∃ ao cap, e = .returned (.slice ao l.length cap) ∧ Rd w2 6 (.slice ao l.length cap) l.length (drCells l) ∧ Fr no w' w2 := fun hl w' hf =>
    (lOfDrafts (.slice a1 l.length c1) l w' (Rd.fr h1 hf (fun _ _ _ f => f)) (fun d h => Rd.fr (hd1 d h) hf (fun _ _ _ f => f)) (by omega)).mono (fun e w2 ⟨ao, cap, he, hO⟩ => ⟨ao, cap, he, hO.rd, hO.fr⟩)
  have hchk := fun (w' : World) (hf : Fr no w w') => tCheck own next (.slice so seen.length sc) (.slice a0 late.length c0) seen w' (hs.fr hf (fun _ _ _ f => f))
  have hck := fun (w' : World) (hf : Fr no w w') (lo : Option Addr) (ll lc : Nat) => ref_checkToken own next (.slice so seen.length sc) (.slice lo ll lc) seen w' (hs.fr hf (fun _ _ _ f => f)) lo ll lc rfl
  have hmay := fun (ho : SeenOk seen) (d : Dr) (hm : d ∈ l) (w' : World) (hf : Fr no w w') => tMay own next (.slice so seen.length sc) (.slice a0 late.length c0) seen d w' (hs.fr hf (fun _ _ _ f => f)) (Rd.fr (hd1 d hm) hf (fun _ _ _ f => f)) ho
  have hrmay := fun (ho : SeenOk seen) (d : Dr) (hm : d ∈ l) (w' : World) (hf : Fr no w w') (lo : Option Addr) (ll lc : Nat) => ref_may own next (.slice so seen.length sc) (.slice lo ll lc) seen d w' (hs.fr hf (fun _ _ _ f => f)) (Rd.fr (hd1 d hm) hf (fun _ _ _ f => f)) ho lo ll lc rfl
  have hfl : fewL late = true → late.length ≤ 40 := fun h => by unfold fewL at h; simp at h; exact h.1
  have hgn : GoodP own next seen late l → late.length ≤ 40 ∧ l.length ≤ 40 ∧ SeenOk seen := fun h => ⟨h.n1, h.n2, (goodP_seen h).1⟩
  have H1 : Hid (Rd w 6 (.slice a1 l.length c1) l.length (drCells l)) := Lib.hid h1
  have Hadm := Lib.hid hadm
  have Hradm := Lib.hid hradm
  have Hlal := Lib.hid hlal
  have Hfew := Lib.hid hfew
  have Hof := Lib.hid hof
  have Hofd := Lib.hid hofd
  have Hchk := Lib.hid hchk
  have Hck := Lib.hid hck
  have Hmay := Lib.hid hmay
  have Hrmay := Lib.hid hrmay
  have Hfl := Lib.hid hfl
  have Hgn := Lib.hid hgn
  have Hd1 := Lib.hid hd1
  have Hun := Lib.hid hun
  have Hln := Lib.hid hln
  have Hom := Lib.hid hom
  clear hs h0 h1 hd hdl hd1 hadm hradm hlal hfew hof hofd hchk hck hmay hrmay hfl hgn hR hnx hus hla hout hun hln hom
  unfold tkV at Hgood Hchk Hck Hmay Hrmay ⊢
  generalize hn0 : late.length = n0 at *
  generalize hn1 : l.length = n1 at *
  have Hn1 := Lib.hid hn1
  clear hn0 hn1
  generalize seen.length = sn at *
  obtain ⟨ck, hck⟩ : ∃ ck, tcheck own next seen = ck := ⟨_, rfl⟩
  rw [hck] at Hchk Hck
  clear hck
  obtain ⟨fw, hfw⟩ : ∃ fw, fewL late = fw := ⟨_, rfl⟩
  rw [hfw] at Hfew Hfl
  clear hfw
  have hckk : (ck != ck) = false := bne_same _
  have hfb : Fr no w (w.alloc (.cells #[.int .i64 own, .int .i64 next, .slice so sn sc, .slice a0 n0 c0] 26)) := (Fr.refl no w).alloc _
  have hb := World.alloc_heap_new w (.cells #[.int .i64 own, .int .i64 next, .slice so sn sc, .slice a0 n0 c0] 26)
  have HFb := Lib.hid hfb
  have HB := Lib.hid hb
  clear hfb hb
  go_enter Try.func3, Try.ntmps3
  go_wp2_with fail
  refine (law_known _).mono ?_
  rintro e w1 ⟨rfl, hf1⟩
  have HF1 := Lib.hid (HFb.out.trans' hf1)
  have HB1 := Lib.hid (hf1.heap HB.out (fun f => f))
  have t0 := cell_of_block (j := 0) HB1.out rfl
  have t1 := cell_of_block (j := 1) HB1.out rfl
  have t2 := cell_of_block (j := 2) HB1.out rfl
  have t3 := cell_of_block (j := 3) HB1.out rfl
  clear hf1 HB HFb
  go_upto_region 3 with (fail)
  go_cut [28] (fun bv wx => bv = .bool false ∧ Hid (Fr no w1 wx))
  case first =>
    by_cases h70 : sn ≤ 70
    · have hd70 : decide ((sn : Int) ≤ 70) = true := decide_eq_true (by omega)
      cases fw
      · skip
        obtain ⟨Sg136_0, HSg136_0⟩ : ∃ S : World → Prop, Hid (S = (fun w' => w'.cell? ⟨w.heap.size, 0, none⟩ = some (.int .i64 own) ∧ w'.cell? ⟨w.heap.size, 1, none⟩ = some (.int .i64 next) ∧ w'.cell? ⟨w.heap.size, 2, none⟩ = some (.slice so sn sc) ∧ w'.cell? ⟨w.heap.size, 3, none⟩ = some (.slice a0 n0 c0))) := ⟨_, Lib.hid rfl⟩
        refine wp_heldp [] (pickS [Sg136_0]) (by kernel_rfl) ?_ (fun hHeld => ?_)
        · show Sg136_0 _; rw [HSg136_0.out]; exact ⟨t0, t1, t2, t3⟩
        obtain ⟨wc, hwc⟩ : ∃ x, w1.drew = x := ⟨_, rfl⟩; rw [hwc] at hHeld; rw [hwc]; have HF : Hid (Fr no w1 wc) := (by rw [← hwc]; exact Lib.hid ((Fr.refl no w1).drewN 1)); clear hwc
        refine heldp_take (v := ?_) 0 0 rfl (by kernel_rfl) (.inl ⟨by rfl, ?_⟩) hHeld ?_
        rotate_left
        · intro w hSw; replace hSw : Sg136_0 w := hSw; rw [HSg136_0.out] at hSw; (try dsimp only at hSw); first | (go_simp; done) | (go_simp; with_reducible rfl)
        try simp only [Act.put, List.setIfInBounds_toArray, List.set_cons_zero, List.set_cons_succ]
        refine heldp_take (v := ?_) 1 0 rfl (by kernel_rfl) (.inl ⟨by rfl, ?_⟩) hHeld ?_
        rotate_left
        · intro w hSw; replace hSw : Sg136_0 w := hSw; rw [HSg136_0.out] at hSw; (try dsimp only at hSw); first | (go_simp; done) | (go_simp; with_reducible rfl)
        try simp only [Act.put, List.setIfInBounds_toArray, List.set_cons_zero, List.set_cons_succ]
        refine heldp_take (v := ?_) 2 0 rfl (by kernel_rfl) (.inl ⟨by rfl, ?_⟩) hHeld ?_
        rotate_left
        · intro w hSw; replace hSw : Sg136_0 w := hSw; rw [HSg136_0.out] at hSw; (try dsimp only at hSw); first | (go_simp; done) | (go_simp; with_reducible rfl)
        try simp only [Act.put, List.setIfInBounds_toArray, List.set_cons_zero, List.set_cons_succ]
        refine heldp_take (v := (.bool true)) 3 0 rfl (by kernel_rfl) (.inl ⟨by rfl, ?_⟩) hHeld ?_
        · intro w hSw; replace hSw : Sg136_0 w := hSw; rw [HSg136_0.out] at hSw; (try dsimp only at hSw); first | (go_simp; done) | (go_simp; with_reducible rfl)
        try simp only [Act.put, List.setIfInBounds_toArray, List.set_cons_zero, List.set_cons_succ]
        refine heldp_take (v := ?_) 4 0 rfl (by kernel_rfl) (.inl ⟨by rfl, ?_⟩) hHeld ?_
        rotate_left
        · intro w hSw; replace hSw : Sg136_0 w := hSw; rw [HSg136_0.out] at hSw; (try dsimp only at hSw); first | (go_simp; done) | (go_simp; with_reducible rfl)
        try simp only [Act.put, List.setIfInBounds_toArray, List.set_cons_zero, List.set_cons_succ]
        refine heldp_take (v := ?_) 5 0 rfl (by kernel_rfl) (.inl ⟨by rfl, ?_⟩) hHeld ?_
        rotate_left
        · intro w hSw; replace hSw : Sg136_0 w := hSw; rw [HSg136_0.out] at hSw; (try dsimp only at hSw); first | (go_simp; done) | (go_simp; with_reducible rfl)
        try simp only [Act.put, List.setIfInBounds_toArray, List.set_cons_zero, List.set_cons_succ]
        refine heldp_take (v := ?_) 6 0 rfl (by kernel_rfl) (.inl ⟨by rfl, ?_⟩) hHeld ?_
        rotate_left
        · intro w hSw; replace hSw : Sg136_0 w := hSw; rw [HSg136_0.out] at hSw; (try dsimp only at hSw); first | (go_simp; done) | (go_simp; with_reducible rfl)
        try simp only [Act.put, List.setIfInBounds_toArray, List.set_cons_zero, List.set_cons_succ]
        refine heldp_call 7 0 rfl (by kernel_rfl) (fun K hK => ?_)
        go_simp
        go_at_call 9
        refine (Hfew.out _ (HF1.out.trans' HF.out)).mono ?_
        rintro e wc ⟨rfl, hfd⟩
        replace HF := Lib.hid (HF.out.trans' hfd)
        clear hfd
        refine hK.out _ _ ?_ (fun hHeld' => ?_)
        · show Sg136_0 _; rw [HSg136_0.out]; have hq := HF.out; exact ⟨hq.cell t0 (fun f => f), hq.cell t1 (fun f => f), hq.cell t2 (fun f => f), hq.cell t3 (fun f => f)⟩
        clear hK K hHeld
        have hHeld := hHeld'
        clear hHeld'
        try simp only [Act.put, List.setIfInBounds_toArray, List.set_cons_zero, List.set_cons_succ]
        refine heldp_take (v := ?_) 8 0 rfl (by kernel_rfl) (.inl ⟨by rfl, ?_⟩) hHeld ?_
        rotate_left
        · intro w hSw; replace hSw : Sg136_0 w := hSw; rw [HSg136_0.out] at hSw; (try dsimp only at hSw); first | (go_simp; done) | (go_simp; with_reducible rfl)
        try simp only [Act.put, List.setIfInBounds_toArray, List.set_cons_zero, List.set_cons_succ]
        refine heldp_take (v := ?_) 9 0 rfl (by kernel_rfl) (.inl ⟨by rfl, ?_⟩) hHeld ?_
        rotate_left
        · intro w hSw; replace hSw : Sg136_0 w := hSw; rw [HSg136_0.out] at hSw; (try dsimp only at hSw); first | (go_simp; done) | (go_simp; with_reducible rfl)
        try simp only [Act.put, List.setIfInBounds_toArray, List.set_cons_zero, List.set_cons_succ]
        refine heldp_take 10 0 rfl (by kernel_rfl) (.inr ⟨by rfl, rfl⟩) hHeld ?_
        try simp only [Act.put, List.setIfInBounds_toArray, List.set_cons_zero, List.set_cons_succ]
        refine heldp_take 11 0 rfl (by kernel_rfl) (.inr ⟨by rfl, rfl⟩) hHeld ?_
        try simp only [Act.put, List.setIfInBounds_toArray, List.set_cons_zero, List.set_cons_succ]
        refine heldp_take 12 0 rfl (by kernel_rfl) (.inr ⟨by rfl, rfl⟩) hHeld ?_
        try simp only [Act.put, List.setIfInBounds_toArray, List.set_cons_zero, List.set_cons_succ]
        refine heldp_take 13 0 rfl (by kernel_rfl) (.inr ⟨by rfl, rfl⟩) hHeld ?_
        try simp only [Act.put, List.setIfInBounds_toArray, List.set_cons_zero, List.set_cons_succ]
        refine heldp_take 14 0 rfl (by kernel_rfl) (.inr ⟨by rfl, rfl⟩) hHeld ?_
        try simp only [Act.put, List.setIfInBounds_toArray, List.set_cons_zero, List.set_cons_succ]
        refine heldp_take 15 0 rfl (by kernel_rfl) (.inr ⟨by rfl, rfl⟩) hHeld ?_
        try simp only [Act.put, List.setIfInBounds_toArray, List.set_cons_zero, List.set_cons_succ]
        refine heldp_take (v := ?_) 16 0 rfl (by kernel_rfl) (.inl ⟨by rfl, ?_⟩) hHeld ?_
        rotate_left
        · intro w hSw; replace hSw : Sg136_0 w := hSw; rw [HSg136_0.out] at hSw; (try dsimp only at hSw); first | (go_simp; done) | (go_simp; with_reducible rfl)
        try simp only [Act.put, List.setIfInBounds_toArray, List.set_cons_zero, List.set_cons_succ]
        refine heldp_done (by kernel_rfl) ?_
        try clear hHeld
        clear HSg136_0
        try clear Sg136_0
        go_wp2
        go_meet
        exact ⟨rfl, HF⟩
      · have hl40 := Hfl.out rfl
        obtain ⟨Sg212_0, HSg212_0⟩ : ∃ S : World → Prop, Hid (S = (fun w' => w'.cell? ⟨w.heap.size, 0, none⟩ = some (.int .i64 own) ∧ w'.cell? ⟨w.heap.size, 1, none⟩ = some (.int .i64 next) ∧ w'.cell? ⟨w.heap.size, 2, none⟩ = some (.slice so sn sc) ∧ w'.cell? ⟨w.heap.size, 3, none⟩ = some (.slice a0 n0 c0))) := ⟨_, Lib.hid rfl⟩
        refine wp_heldp [] (pickS [Sg212_0]) (by kernel_rfl) ?_ (fun hHeld => ?_)
        · show Sg212_0 _; rw [HSg212_0.out]; exact ⟨t0, t1, t2, t3⟩
        obtain ⟨wc, hwc⟩ : ∃ x, w1.drew = x := ⟨_, rfl⟩; rw [hwc] at hHeld; rw [hwc]; have HF : Hid (Fr no w1 wc) := (by rw [← hwc]; exact Lib.hid ((Fr.refl no w1).drewN 1)); clear hwc
        refine heldp_take (v := ?_) 0 0 rfl (by kernel_rfl) (.inl ⟨by rfl, ?_⟩) hHeld ?_
        rotate_left
        · intro w hSw; replace hSw : Sg212_0 w := hSw; rw [HSg212_0.out] at hSw; (try dsimp only at hSw); first | (go_simp; done) | (go_simp; with_reducible rfl)
        try simp only [Act.put, List.setIfInBounds_toArray, List.set_cons_zero, List.set_cons_succ]
        refine heldp_take (v := ?_) 1 0 rfl (by kernel_rfl) (.inl ⟨by rfl, ?_⟩) hHeld ?_
        rotate_left
        · intro w hSw; replace hSw : Sg212_0 w := hSw; rw [HSg212_0.out] at hSw; (try dsimp only at hSw); first | (go_simp; done) | (go_simp; with_reducible rfl)
        try simp only [Act.put, List.setIfInBounds_toArray, List.set_cons_zero, List.set_cons_succ]
        refine heldp_take (v := ?_) 2 0 rfl (by kernel_rfl) (.inl ⟨by rfl, ?_⟩) hHeld ?_
        rotate_left
        · intro w hSw; replace hSw : Sg212_0 w := hSw; rw [HSg212_0.out] at hSw; (try dsimp only at hSw); first | (go_simp; done) | (go_simp; with_reducible rfl)
        try simp only [Act.put, List.setIfInBounds_toArray, List.set_cons_zero, List.set_cons_succ]
        refine heldp_take (v := (.bool true)) 3 0 rfl (by kernel_rfl) (.inl ⟨by rfl, ?_⟩) hHeld ?_
        · intro w hSw; replace hSw : Sg212_0 w := hSw; rw [HSg212_0.out] at hSw; (try dsimp only at hSw); first | (go_simp; done) | (go_simp; with_reducible rfl)
        try simp only [Act.put, List.setIfInBounds_toArray, List.set_cons_zero, List.set_cons_succ]
        refine heldp_take (v := ?_) 4 0 rfl (by kernel_rfl) (.inl ⟨by rfl, ?_⟩) hHeld ?_
        rotate_left
        · intro w hSw; replace hSw : Sg212_0 w := hSw; rw [HSg212_0.out] at hSw; (try dsimp only at hSw); first | (go_simp; done) | (go_simp; with_reducible rfl)
        try simp only [Act.put, List.setIfInBounds_toArray, List.set_cons_zero, List.set_cons_succ]
        refine heldp_take (v := ?_) 5 0 rfl (by kernel_rfl) (.inl ⟨by rfl, ?_⟩) hHeld ?_
        rotate_left
        · intro w hSw; replace hSw : Sg212_0 w := hSw; rw [HSg212_0.out] at hSw; (try dsimp only at hSw); first | (go_simp; done) | (go_simp; with_reducible rfl)
        try simp only [Act.put, List.setIfInBounds_toArray, List.set_cons_zero, List.set_cons_succ]
        refine heldp_take (v := ?_) 6 0 rfl (by kernel_rfl) (.inl ⟨by rfl, ?_⟩) hHeld ?_
        rotate_left
        · intro w hSw; replace hSw : Sg212_0 w := hSw; rw [HSg212_0.out] at hSw; (try dsimp only at hSw); first | (go_simp; done) | (go_simp; with_reducible rfl)
        try simp only [Act.put, List.setIfInBounds_toArray, List.set_cons_zero, List.set_cons_succ]
        refine heldp_call 7 0 rfl (by kernel_rfl) (fun K hK => ?_)
        go_simp
        go_at_call 9
        refine (Hfew.out _ (HF1.out.trans' HF.out)).mono ?_
        rintro e wc ⟨rfl, hfd⟩
        replace HF := Lib.hid (HF.out.trans' hfd)
        clear hfd
        refine hK.out _ _ ?_ (fun hHeld' => ?_)
        · show Sg212_0 _; rw [HSg212_0.out]; have hq := HF.out; exact ⟨hq.cell t0 (fun f => f), hq.cell t1 (fun f => f), hq.cell t2 (fun f => f), hq.cell t3 (fun f => f)⟩
        clear hK K hHeld
        have hHeld := hHeld'
        clear hHeld'
        try simp only [Act.put, List.setIfInBounds_toArray, List.set_cons_zero, List.set_cons_succ]
        refine heldp_take (v := ?_) 8 0 rfl (by kernel_rfl) (.inl ⟨by rfl, ?_⟩) hHeld ?_
        rotate_left
        · intro w hSw; replace hSw : Sg212_0 w := hSw; rw [HSg212_0.out] at hSw; (try dsimp only at hSw); first | (go_simp; done) | (go_simp; with_reducible rfl)
        try simp only [Act.put, List.setIfInBounds_toArray, List.set_cons_zero, List.set_cons_succ]
        refine heldp_take (v := ?_) 9 0 rfl (by kernel_rfl) (.inl ⟨by rfl, ?_⟩) hHeld ?_
        rotate_left
        · intro w hSw; replace hSw : Sg212_0 w := hSw; rw [HSg212_0.out] at hSw; (try dsimp only at hSw); first | (go_simp; done) | (go_simp; with_reducible rfl)
        try simp only [Act.put, List.setIfInBounds_toArray, List.set_cons_zero, List.set_cons_succ]
        refine heldp_take (v := ?_) 10 0 rfl (by kernel_rfl) (.inl ⟨by rfl, ?_⟩) hHeld ?_
        rotate_left
        · intro w hSw; replace hSw : Sg212_0 w := hSw; rw [HSg212_0.out] at hSw; (try dsimp only at hSw); first | (go_simp; done) | (go_simp; with_reducible rfl)
        try simp only [Act.put, List.setIfInBounds_toArray, List.set_cons_zero, List.set_cons_succ]
        refine heldp_take (v := ?_) 12 0 rfl (by kernel_rfl) (.inl ⟨by rfl, ?_⟩) hHeld ?_
        rotate_left
        · intro w hSw; replace hSw : Sg212_0 w := hSw; rw [HSg212_0.out] at hSw; (try dsimp only at hSw); first | (go_simp; done) | (go_simp; with_reducible rfl)
        try simp only [Act.put, List.setIfInBounds_toArray, List.set_cons_zero, List.set_cons_succ]
        refine heldp_call 11 0 rfl (by kernel_rfl) (fun K hK => ?_)
        go_simp
        go_at_call 10
        refine (Hchk.out _ (HF1.out.trans' HF.out)).mono ?_
        rintro e wc ⟨rfl, hfd⟩
        replace HF := Lib.hid (HF.out.trans' hfd)
        clear hfd
        refine hK.out _ _ ?_ (fun hHeld' => ?_)
        · show Sg212_0 _; rw [HSg212_0.out]; have hq := HF.out; exact ⟨hq.cell t0 (fun f => f), hq.cell t1 (fun f => f), hq.cell t2 (fun f => f), hq.cell t3 (fun f => f)⟩
        clear hK K hHeld
        have hHeld := hHeld'
        clear hHeld'
        try simp only [Act.put, List.setIfInBounds_toArray, List.set_cons_zero, List.set_cons_succ]
        refine heldp_call 13 0 rfl (by kernel_rfl) (fun K hK => ?_)
        go_simp
        go_at_call 12
        refine (Hof.out hl40 _ (HF1.out.trans' HF.out)).mono ?_
        rintro e wc ⟨lo, lc, rfl, _, hfd⟩
        replace HF := Lib.hid (HF.out.trans' hfd)
        clear hfd
        refine hK.out _ _ ?_ (fun hHeld' => ?_)
        · show Sg212_0 _; rw [HSg212_0.out]; have hq := HF.out; exact ⟨hq.cell t0 (fun f => f), hq.cell t1 (fun f => f), hq.cell t2 (fun f => f), hq.cell t3 (fun f => f)⟩
        clear hK K hHeld
        have hHeld := hHeld'
        clear hHeld'
        try simp only [Act.put, List.setIfInBounds_toArray, List.set_cons_zero, List.set_cons_succ]
        refine heldp_call 14 0 rfl (by kernel_rfl) (fun K hK => ?_)
        go_simp
        go_at_call 11
        refine (Hck.out _ (HF1.out.trans' HF.out) lo n0 lc).mono ?_
        rintro e wc ⟨rfl, hfd⟩
        replace HF := Lib.hid (HF.out.trans' hfd)
        clear hfd
        refine hK.out _ _ ?_ (fun hHeld' => ?_)
        · show Sg212_0 _; rw [HSg212_0.out]; have hq := HF.out; exact ⟨hq.cell t0 (fun f => f), hq.cell t1 (fun f => f), hq.cell t2 (fun f => f), hq.cell t3 (fun f => f)⟩
        clear hK K hHeld
        have hHeld := hHeld'
        clear hHeld'
        try simp only [Act.put, List.setIfInBounds_toArray, List.set_cons_zero, List.set_cons_succ]
        refine heldp_take (v := ?_) 15 0 rfl (by kernel_rfl) (.inl ⟨by rfl, ?_⟩) hHeld ?_
        rotate_left
        · intro w hSw; replace hSw : Sg212_0 w := hSw; rw [HSg212_0.out] at hSw; (try dsimp only at hSw); first | (go_simp; done) | (go_simp; with_reducible rfl)
        try simp only [Act.put, List.setIfInBounds_toArray, List.set_cons_zero, List.set_cons_succ]
        refine heldp_take (v := ?_) 16 0 rfl (by kernel_rfl) (.inl ⟨by rfl, ?_⟩) hHeld ?_
        rotate_left
        · intro w hSw; replace hSw : Sg212_0 w := hSw; rw [HSg212_0.out] at hSw; (try dsimp only at hSw); first | (go_simp; done) | (go_simp; with_reducible rfl)
        try simp only [Act.put, List.setIfInBounds_toArray, List.set_cons_zero, List.set_cons_succ]
        refine heldp_done (by kernel_rfl) ?_
        try clear hHeld
        clear HSg212_0
        try clear Sg212_0
        go_wp2
        go_meet
        exact ⟨rfl, HF⟩
    · have hd70 : decide ((sn : Int) ≤ 70) = false := decide_eq_false (by omega)
      obtain ⟨Sg327_0, HSg327_0⟩ : ∃ S : World → Prop, Hid (S = (fun w' => w'.cell? ⟨w.heap.size, 0, none⟩ = some (.int .i64 own) ∧ w'.cell? ⟨w.heap.size, 1, none⟩ = some (.int .i64 next) ∧ w'.cell? ⟨w.heap.size, 2, none⟩ = some (.slice so sn sc) ∧ w'.cell? ⟨w.heap.size, 3, none⟩ = some (.slice a0 n0 c0))) := ⟨_, Lib.hid rfl⟩
      refine wp_heldp [] (pickS [Sg327_0]) (by kernel_rfl) ?_ (fun hHeld => ?_)
      · show Sg327_0 _; rw [HSg327_0.out]; exact ⟨t0, t1, t2, t3⟩
      obtain ⟨wc, hwc⟩ : ∃ x, w1.drew = x := ⟨_, rfl⟩; rw [hwc] at hHeld; rw [hwc]; have HF : Hid (Fr no w1 wc) := (by rw [← hwc]; exact Lib.hid ((Fr.refl no w1).drewN 1)); clear hwc
      refine heldp_take (v := ?_) 0 0 rfl (by kernel_rfl) (.inl ⟨by rfl, ?_⟩) hHeld ?_
      rotate_left
      · intro w hSw; replace hSw : Sg327_0 w := hSw; rw [HSg327_0.out] at hSw; (try dsimp only at hSw); first | (go_simp; done) | (go_simp; with_reducible rfl)
      try simp only [Act.put, List.setIfInBounds_toArray, List.set_cons_zero, List.set_cons_succ]
      refine heldp_take (v := ?_) 1 0 rfl (by kernel_rfl) (.inl ⟨by rfl, ?_⟩) hHeld ?_
      rotate_left
      · intro w hSw; replace hSw : Sg327_0 w := hSw; rw [HSg327_0.out] at hSw; (try dsimp only at hSw); first | (go_simp; done) | (go_simp; with_reducible rfl)
      try simp only [Act.put, List.setIfInBounds_toArray, List.set_cons_zero, List.set_cons_succ]
      refine heldp_take (v := ?_) 2 0 rfl (by kernel_rfl) (.inl ⟨by rfl, ?_⟩) hHeld ?_
      rotate_left
      · intro w hSw; replace hSw : Sg327_0 w := hSw; rw [HSg327_0.out] at hSw; (try dsimp only at hSw); first | (go_simp; done) | (go_simp; with_reducible rfl)
      try simp only [Act.put, List.setIfInBounds_toArray, List.set_cons_zero, List.set_cons_succ]
      refine heldp_take (v := (.bool false)) 3 0 rfl (by kernel_rfl) (.inl ⟨by rfl, ?_⟩) hHeld ?_
      · intro w hSw; replace hSw : Sg327_0 w := hSw; rw [HSg327_0.out] at hSw; (try dsimp only at hSw); first | (go_simp; done) | (go_simp; with_reducible rfl)
      try simp only [Act.put, List.setIfInBounds_toArray, List.set_cons_zero, List.set_cons_succ]
      refine heldp_take (v := ?_) 4 0 rfl (by kernel_rfl) (.inl ⟨by rfl, ?_⟩) hHeld ?_
      rotate_left
      · intro w hSw; replace hSw : Sg327_0 w := hSw; rw [HSg327_0.out] at hSw; (try dsimp only at hSw); first | (go_simp; done) | (go_simp; with_reducible rfl)
      try simp only [Act.put, List.setIfInBounds_toArray, List.set_cons_zero, List.set_cons_succ]
      refine heldp_take 5 0 rfl (by kernel_rfl) (.inr ⟨by rfl, rfl⟩) hHeld ?_
      try simp only [Act.put, List.setIfInBounds_toArray, List.set_cons_zero, List.set_cons_succ]
      refine heldp_take 6 0 rfl (by kernel_rfl) (.inr ⟨by rfl, rfl⟩) hHeld ?_
      try simp only [Act.put, List.setIfInBounds_toArray, List.set_cons_zero, List.set_cons_succ]
      refine heldp_take 7 0 rfl (by kernel_rfl) (.inr ⟨by rfl, rfl⟩) hHeld ?_
      try simp only [Act.put, List.setIfInBounds_toArray, List.set_cons_zero, List.set_cons_succ]
      refine heldp_take (v := ?_) 8 0 rfl (by kernel_rfl) (.inl ⟨by rfl, ?_⟩) hHeld ?_
      rotate_left
      · intro w hSw; replace hSw : Sg327_0 w := hSw; rw [HSg327_0.out] at hSw; (try dsimp only at hSw); first | (go_simp; done) | (go_simp; with_reducible rfl)
      try simp only [Act.put, List.setIfInBounds_toArray, List.set_cons_zero, List.set_cons_succ]
      refine heldp_take (v := ?_) 9 0 rfl (by kernel_rfl) (.inl ⟨by rfl, ?_⟩) hHeld ?_
      rotate_left
      · intro w hSw; replace hSw : Sg327_0 w := hSw; rw [HSg327_0.out] at hSw; (try dsimp only at hSw); first | (go_simp; done) | (go_simp; with_reducible rfl)
      try simp only [Act.put, List.setIfInBounds_toArray, List.set_cons_zero, List.set_cons_succ]
      refine heldp_take 10 0 rfl (by kernel_rfl) (.inr ⟨by rfl, rfl⟩) hHeld ?_
      try simp only [Act.put, List.setIfInBounds_toArray, List.set_cons_zero, List.set_cons_succ]
      refine heldp_take 11 0 rfl (by kernel_rfl) (.inr ⟨by rfl, rfl⟩) hHeld ?_
      try simp only [Act.put, List.setIfInBounds_toArray, List.set_cons_zero, List.set_cons_succ]
      refine heldp_take 12 0 rfl (by kernel_rfl) (.inr ⟨by rfl, rfl⟩) hHeld ?_
      try simp only [Act.put, List.setIfInBounds_toArray, List.set_cons_zero, List.set_cons_succ]
      refine heldp_take 13 0 rfl (by kernel_rfl) (.inr ⟨by rfl, rfl⟩) hHeld ?_
      try simp only [Act.put, List.setIfInBounds_toArray, List.set_cons_zero, List.set_cons_succ]
      refine heldp_take 14 0 rfl (by kernel_rfl) (.inr ⟨by rfl, rfl⟩) hHeld ?_
      try simp only [Act.put, List.setIfInBounds_toArray, List.set_cons_zero, List.set_cons_succ]
      refine heldp_take 15 0 rfl (by kernel_rfl) (.inr ⟨by rfl, rfl⟩) hHeld ?_
      try simp only [Act.put, List.setIfInBounds_toArray, List.set_cons_zero, List.set_cons_succ]
      refine heldp_take (v := ?_) 16 0 rfl (by kernel_rfl) (.inl ⟨by rfl, ?_⟩) hHeld ?_
      rotate_left
      · intro w hSw; replace hSw : Sg327_0 w := hSw; rw [HSg327_0.out] at hSw; (try dsimp only at hSw); first | (go_simp; done) | (go_simp; with_reducible rfl)
      try simp only [Act.put, List.setIfInBounds_toArray, List.set_cons_zero, List.set_cons_succ]
      refine heldp_done (by kernel_rfl) ?_
      try clear hHeld
      clear HSg327_0
      try clear Sg327_0
      go_wp2
      go_meet
      exact ⟨rfl, HF⟩
  case rest =>
    obtain ⟨rfl, HF⟩ := hcut
    have HB2 := Lib.hid (HF.out.heap HB1.out (fun f => f))
    have HF2 := Lib.hid (HF1.out.trans' HF.out)
    clear t0 t1 t2 t3 HB1 HF1 HF Hfew Hfl Hchk Hck hckk
    generalize wc = w2 at *
    have t0 := cell_of_block (j := 0) HB2.out rfl
    have t1 := cell_of_block (j := 1) HB2.out rfl
    have t2 := cell_of_block (j := 2) HB2.out rfl
    have t3 := cell_of_block (j := 3) HB2.out rfl
    go_wp2_with fail
    refine (Hgood.out _ HF2.out).mono ?_
    rintro e w3 ⟨he, hf3⟩
    have HF3 := Lib.hid (HF2.out.trans' hf3)
    have HB3 := Lib.hid (hf3.heap HB2.out (fun f => f))
    clear hf3 t0 t1 t2 t3 HF2 HB2 Hgood
    rcases he with rfl | ⟨rfl, hg⟩
    · go_wp2
      go_ret
      exact ⟨rfl, HF3.out⟩
    · have HG := Lib.hid hg
      obtain ⟨hg0, hg1, hgs⟩ := Hgn.out hg
      have HGS := Lib.hid hgs
      have hln := Hlal.out hg0 hg1
      clear hg hgs Hgn Hlal
      go_wp2_with fail
      go_loopw [5] (fun iv wr => ∃ i : Nat, i ≤ n1 ∧ iv = .int .i64 i ∧ Hid (Fr no w3 wr)) (fun iv _ => n1 - (intOf iv).toNat)
      case atStart => exact ⟨0, Nat.zero_le _, rfl, Lib.hid (Fr.refl _ _)⟩
      case round =>
        obtain ⟨i, hi, rfl, hF⟩ := hrel
        generalize wr = V at *
        have HBV := Lib.hid (hF.out.heap HB3.out (fun f => f))
        have HFV := Lib.hid (HF3.out.trans' hF.out)
        have z0 := cell_of_block (j := 0) HBV.out rfl
        have z1 := cell_of_block (j := 1) HBV.out rfl
        have z2 := cell_of_block (j := 2) HBV.out rfl
        have z3 := cell_of_block (j := 3) HBV.out rfl
        by_cases hlt : i < n1
        · obtain ⟨d, hdk⟩ : ∃ x, l[i]? = some x := ⟨l[i]'(by rw [Hn1.out]; exact hlt), by simp⟩
          have hdm := List.mem_of_getElem? hdk
          have hdo := Hd1.out d hdm
          obtain ⟨g, off, c', he, e0, e1, e2, e3, e4, e5⟩ := drs_cells (w := V) (v := .slice a1 n1 c1) (l := l) (by show Rd V 6 _ l.length _; rw [Hn1.out]; exact H1.out.fr HFV.out (fun _ _ _ f => f)) hdk
          rw [Hn1.out] at he
          cases he
          have hmy := Hmay.out HGS.out d hdm
          have hrm := Hrmay.out HGS.out d hdm
          obtain ⟨b, hb⟩ : ∃ b, dmay own seen d = b := ⟨_, rfl⟩
          rw [hb] at hmy hrm
          obtain ⟨dt, ds, dq, dv, dep, dk, dx⟩ := d
          obtain ⟨dO, dc, hdv, _, _⟩ := Rd.cap hdo
          dsimp only at *
          subst hdv
          unfold Dr.v at hmy hrm
          dsimp only at hmy hrm
          have Hmy := Lib.hid hmy
          have Hrm := Lib.hid hrm
          generalize dep.length = dn at *
          have hbb : (b != b) = false := by cases b <;> rfl
          clear hdk hdm hdo hmy hrm hb
          go_upto_region 10 with (fail)
          obtain ⟨Sg447_0, HSg447_0⟩ : ∃ S : World → Prop, Hid (S = (fun w' => w'.cell? ⟨w.heap.size, 0, none⟩ = some (.int .i64 own) ∧ w'.cell? ⟨w.heap.size, 1, none⟩ = some (.int .i64 next) ∧ w'.cell? ⟨w.heap.size, 2, none⟩ = some (.slice so sn sc) ∧ w'.cell? ⟨w.heap.size, 3, none⟩ = some (.slice a0 n0 c0) ∧ w'.cell? ⟨g, off + i * 6, none⟩ = some (.int .i64 dt) ∧ w'.cell? ⟨g, off + i * 6 + 1, none⟩ = some (.int .i64 ds) ∧ w'.cell? ⟨g, off + i * 6 + 2, none⟩ = some (.int .i64 dq) ∧ w'.cell? ⟨g, off + i * 6 + 3, none⟩ = some (.slice dO dn dc) ∧ w'.cell? ⟨g, off + i * 6 + 4, none⟩ = some (.string dk) ∧ w'.cell? ⟨g, off + i * 6 + 5, none⟩ = some (.string dx))) := ⟨_, Lib.hid rfl⟩
          refine wp_heldp [] (pickS [Sg447_0]) (by kernel_rfl) ?_ (fun hHeld => ?_)
          · show Sg447_0 _; rw [HSg447_0.out]; exact ⟨z0, z1, z2, z3, e0, e1, e2, e3, e4, e5⟩
          obtain ⟨wc, hwc⟩ : ∃ x, V.drew = x := ⟨_, rfl⟩; rw [hwc] at hHeld; rw [hwc]; have HF : Hid (Fr no V wc) := (by rw [← hwc]; exact Lib.hid ((Fr.refl no V).drewN 1)); clear hwc
          refine heldp_take (v := ?_) 0 0 rfl (by kernel_rfl) (.inl ⟨by rfl, ?_⟩) hHeld ?_
          rotate_left
          · intro w hSw; replace hSw : Sg447_0 w := hSw; rw [HSg447_0.out] at hSw; (try dsimp only at hSw); first | (go_simp; done) | (go_simp; with_reducible rfl)
          try simp only [Act.put, List.setIfInBounds_toArray, List.set_cons_zero, List.set_cons_succ]
          refine heldp_take (v := ?_) 1 0 rfl (by kernel_rfl) (.inl ⟨by rfl, ?_⟩) hHeld ?_
          rotate_left
          · intro w hSw; replace hSw : Sg447_0 w := hSw; rw [HSg447_0.out] at hSw; (try dsimp only at hSw); first | (go_simp; done) | (go_simp; with_reducible rfl)
          try simp only [Act.put, List.setIfInBounds_toArray, List.set_cons_zero, List.set_cons_succ]
          refine heldp_take (v := ?_) 2 0 rfl (by kernel_rfl) (.inl ⟨by rfl, ?_⟩) hHeld ?_
          rotate_left
          · intro w hSw; replace hSw : Sg447_0 w := hSw; rw [HSg447_0.out] at hSw; (try dsimp only at hSw); first | (go_simp; done) | (go_simp; with_reducible rfl)
          try simp only [Act.put, List.setIfInBounds_toArray, List.set_cons_zero, List.set_cons_succ]
          refine heldp_take (v := ?_) 3 0 rfl (by kernel_rfl) (.inl ⟨by rfl, ?_⟩) hHeld ?_
          rotate_left
          · intro w hSw; replace hSw : Sg447_0 w := hSw; rw [HSg447_0.out] at hSw; (try dsimp only at hSw); first | (go_simp; done) | (go_simp; with_reducible rfl)
          try simp only [Act.put, List.setIfInBounds_toArray, List.set_cons_zero, List.set_cons_succ]
          refine heldp_take (v := ?_) 4 0 rfl (by kernel_rfl) (.inl ⟨by rfl, ?_⟩) hHeld ?_
          rotate_left
          · intro w hSw; replace hSw : Sg447_0 w := hSw; rw [HSg447_0.out] at hSw; (try dsimp only at hSw); first | (go_simp; done) | (go_simp; with_reducible rfl)
          try simp only [Act.put, List.setIfInBounds_toArray, List.set_cons_zero, List.set_cons_succ]
          refine heldp_take (v := ?_) 6 0 rfl (by kernel_rfl) (.inl ⟨by rfl, ?_⟩) hHeld ?_
          rotate_left
          · intro w hSw; replace hSw : Sg447_0 w := hSw; rw [HSg447_0.out] at hSw; (try dsimp only at hSw); first | (go_simp; done) | (go_simp; with_reducible rfl)
          try simp only [Act.put, List.setIfInBounds_toArray, List.set_cons_zero, List.set_cons_succ]
          refine heldp_take (v := ?_) 8 0 rfl (by kernel_rfl) (.inl ⟨by rfl, ?_⟩) hHeld ?_
          rotate_left
          · intro w hSw; replace hSw : Sg447_0 w := hSw; rw [HSg447_0.out] at hSw; (try dsimp only at hSw); first | (go_simp; done) | (go_simp; with_reducible rfl)
          try simp only [Act.put, List.setIfInBounds_toArray, List.set_cons_zero, List.set_cons_succ]
          refine heldp_take (v := ?_) 9 0 rfl (by kernel_rfl) (.inl ⟨by rfl, ?_⟩) hHeld ?_
          rotate_left
          · intro w hSw; replace hSw : Sg447_0 w := hSw; rw [HSg447_0.out] at hSw; (try dsimp only at hSw); first | (go_simp; done) | (go_simp; with_reducible rfl)
          try simp only [Act.put, List.setIfInBounds_toArray, List.set_cons_zero, List.set_cons_succ]
          refine heldp_take (v := ?_) 10 0 rfl (by kernel_rfl) (.inl ⟨by rfl, ?_⟩) hHeld ?_
          rotate_left
          · intro w hSw; replace hSw : Sg447_0 w := hSw; rw [HSg447_0.out] at hSw; (try dsimp only at hSw); first | (go_simp; done) | (go_simp; with_reducible rfl)
          try simp only [Act.put, List.setIfInBounds_toArray, List.set_cons_zero, List.set_cons_succ]
          refine heldp_take (v := ?_) 11 0 rfl (by kernel_rfl) (.inl ⟨by rfl, ?_⟩) hHeld ?_
          rotate_left
          · intro w hSw; replace hSw : Sg447_0 w := hSw; rw [HSg447_0.out] at hSw; (try dsimp only at hSw); first | (go_simp; done) | (go_simp; with_reducible rfl)
          try simp only [Act.put, List.setIfInBounds_toArray, List.set_cons_zero, List.set_cons_succ]
          refine heldp_call 5 0 rfl (by kernel_rfl) (fun K hK => ?_)
          go_simp
          go_at_call 14
          refine (Hmy.out _ (HFV.out.trans' HF.out)).mono ?_
          rintro e wc ⟨rfl, hfd⟩
          replace HF := Lib.hid (HF.out.trans' hfd)
          clear hfd
          refine hK.out _ _ ?_ (fun hHeld' => ?_)
          · show Sg447_0 _; rw [HSg447_0.out]; have hq := HF.out; exact ⟨hq.cell z0 (fun f => f), hq.cell z1 (fun f => f), hq.cell z2 (fun f => f), hq.cell z3 (fun f => f), hq.cell e0 (fun f => f), hq.cell e1 (fun f => f), hq.cell e2 (fun f => f), hq.cell e3 (fun f => f), hq.cell e4 (fun f => f), hq.cell e5 (fun f => f)⟩
          clear hK K hHeld
          have hHeld := hHeld'
          clear hHeld'
          try simp only [Act.put, List.setIfInBounds_toArray, List.set_cons_zero, List.set_cons_succ]
          refine heldp_call 7 0 rfl (by kernel_rfl) (fun K hK => ?_)
          go_simp
          go_at_call 12
          refine (Hof.out hg0 _ (HFV.out.trans' HF.out)).mono ?_
          rintro e wc ⟨lo, lc, rfl, _, hfd⟩
          replace HF := Lib.hid (HF.out.trans' hfd)
          clear hfd
          refine hK.out _ _ ?_ (fun hHeld' => ?_)
          · show Sg447_0 _; rw [HSg447_0.out]; have hq := HF.out; exact ⟨hq.cell z0 (fun f => f), hq.cell z1 (fun f => f), hq.cell z2 (fun f => f), hq.cell z3 (fun f => f), hq.cell e0 (fun f => f), hq.cell e1 (fun f => f), hq.cell e2 (fun f => f), hq.cell e3 (fun f => f), hq.cell e4 (fun f => f), hq.cell e5 (fun f => f)⟩
          clear hK K hHeld
          have hHeld := hHeld'
          clear hHeld'
          try simp only [Act.put, List.setIfInBounds_toArray, List.set_cons_zero, List.set_cons_succ]
          refine heldp_call 12 0 rfl (by kernel_rfl) (fun K hK => ?_)
          go_simp
          go_at_call 16
          refine (lOfDraft _ _ _ _ _ _ _ _ wc).mono ?_
          rintro e wc ⟨rfl, hfd⟩
          replace HF := Lib.hid (HF.out.trans' hfd)
          clear hfd
          refine hK.out _ _ ?_ (fun hHeld' => ?_)
          · show Sg447_0 _; rw [HSg447_0.out]; have hq := HF.out; exact ⟨hq.cell z0 (fun f => f), hq.cell z1 (fun f => f), hq.cell z2 (fun f => f), hq.cell z3 (fun f => f), hq.cell e0 (fun f => f), hq.cell e1 (fun f => f), hq.cell e2 (fun f => f), hq.cell e3 (fun f => f), hq.cell e4 (fun f => f), hq.cell e5 (fun f => f)⟩
          clear hK K hHeld
          have hHeld := hHeld'
          clear hHeld'
          try simp only [Act.put, List.setIfInBounds_toArray, List.set_cons_zero, List.set_cons_succ]
          refine heldp_call 13 0 rfl (by kernel_rfl) (fun K hK => ?_)
          go_simp
          go_at_call 15
          refine (Hrm.out _ (HFV.out.trans' HF.out) lo n0 lc).mono ?_
          rintro e wc ⟨rfl, hfd⟩
          replace HF := Lib.hid (HF.out.trans' hfd)
          clear hfd
          refine hK.out _ _ ?_ (fun hHeld' => ?_)
          · show Sg447_0 _; rw [HSg447_0.out]; have hq := HF.out; exact ⟨hq.cell z0 (fun f => f), hq.cell z1 (fun f => f), hq.cell z2 (fun f => f), hq.cell z3 (fun f => f), hq.cell e0 (fun f => f), hq.cell e1 (fun f => f), hq.cell e2 (fun f => f), hq.cell e3 (fun f => f), hq.cell e4 (fun f => f), hq.cell e5 (fun f => f)⟩
          clear hK K hHeld
          have hHeld := hHeld'
          clear hHeld'
          try simp only [Act.put, List.setIfInBounds_toArray, List.set_cons_zero, List.set_cons_succ]
          refine heldp_take (v := ?_) 14 0 rfl (by kernel_rfl) (.inl ⟨by rfl, ?_⟩) hHeld ?_
          rotate_left
          · intro w hSw; replace hSw : Sg447_0 w := hSw; rw [HSg447_0.out] at hSw; (try dsimp only at hSw); first | (go_simp; done) | (go_simp; with_reducible rfl)
          try simp only [Act.put, List.setIfInBounds_toArray, List.set_cons_zero, List.set_cons_succ]
          refine heldp_done (by kernel_rfl) ?_
          try clear hHeld
          clear HSg447_0
          try clear Sg447_0
          have HFn := Lib.hid (hF.out.trans' HF.out)
          clear z0 z1 z2 z3 e0 e1 e2 e3 e4 e5 Hmy Hrm
          go_wp2
          go_roundw
          case rel => exact ⟨i + 1, by omega, by go_num, HFn⟩
          case measure => simp [intOf]; omega
        · clear hF HB3 HF3
          go_wp2_with fail
          refine (Hadm.out HG.out _ HFV.out).mono ?_
          rintro e w4 ⟨uo, uc, lo, lc, oo, oc, rfl, hq1, hq2, hq3, hq4, hq5, hf4⟩
          obtain ⟨w5, hw5⟩ : ∃ w5, w4.alloc (.cells #[.int .i64 own, .int .i64 nx, .slice uo un uc, .slice lo ln lc] 26) = w5 := ⟨_, rfl⟩
          have hf5 : Fr no w4 w5 := by rw [← hw5]; exact (Fr.refl no w4).alloc _
          have hb5 : w5.heap[w4.heap.size]? = some (.cells #[.int .i64 own, .int .i64 nx, .slice uo un uc, .slice lo ln lc] 26 (0, 0)) := by rw [← hw5]; exact World.alloc_heap_new _ _
          have HW5 := Lib.hid hw5
          have HU5 := Lib.hid hb5
          have Q1 := Lib.hid (hq1.fr hf5 (fun _ _ _ f => f))
          have Q2 := Lib.hid (hq2.fr hf5 (fun _ _ _ f => f))
          have Q3 := Lib.hid (hq3.fr hf5 (fun _ _ _ f => f))
          have Q4 := Lib.hid (fun d hd => Rd.fr (hq4 d hd) (hf4.trans' hf5) (fun _ _ _ f => f))
          have Q5 := Lib.hid (fun d hd => Rd.fr (hq5 d hd) (hf4.trans' hf5) (fun _ _ _ f => f))
          have HF5 := Lib.hid (HFV.out.trans' (hf4.trans' hf5))
          have HB5 := Lib.hid ((hf4.trans' hf5).heap HBV.out (fun f => f))
          clear hq1 hq2 hq3 hq4 hq5 hf4 hf5 hb5 hw5 z0 z1 z2 z3 HBV HFV Hadm
          go_upto_region 13 with (fail)
          rw [HW5.out]
          clear HW5
          generalize w4.heap.size = gu at *
          have t0 := cell_of_block (j := 0) HB5.out rfl
          have t1 := cell_of_block (j := 1) HB5.out rfl
          have t2 := cell_of_block (j := 2) HB5.out rfl
          have t3 := cell_of_block (j := 3) HB5.out rfl
          go_wp2_with fail
          refine (Hof.out hg0 _ HF5.out).mono ?_
          rintro e w6 ⟨lo2, lc2, rfl, hl2, hf6⟩
          have F6 := Lib.hid hf6
          have L2 := Lib.hid hl2
          clear hf6 hl2 t0 t1 t2 t3
          go_wp2_with fail
          refine (Hofd.out hg1 _ (HF5.out.trans' F6.out)).mono ?_
          rintro e w7 ⟨bo, bc, rfl, hl3, hf7⟩
          have F7 := Lib.hid (F6.out.trans' hf7)
          have L3 := Lib.hid hl3
          replace L2 := Lib.hid (L2.out.fr hf7 (fun _ _ _ f => f))
          clear hf7 hl3 F6
          go_wp2_with fail
          refine (Hradm.out HG.out _ (HF5.out.trans' F7.out) lo2 lc2 bo bc L2.out L3.out).mono ?_
          rintro e w8 ⟨uo3, uc3, lo3, lc3, oo3, oc3, rfl, hq1, hq2, hq3, hq4, hq5, hf8⟩
          obtain ⟨w9, hw9⟩ : ∃ w9, w8.alloc (.cells #[.int .i64 own, .int .i64 nx, .slice uo3 un uc3, .slice lo3 ln lc3] 34) = w9 := ⟨_, rfl⟩
          have hf9 : Fr no w8 w9 := by rw [← hw9]; exact (Fr.refl no w8).alloc _
          have hb9 : w9.heap[w8.heap.size]? = some (.cells #[.int .i64 own, .int .i64 nx, .slice uo3 un uc3, .slice lo3 ln lc3] 34 (0, 0)) := by rw [← hw9]; exact World.alloc_heap_new _ _
          have HW9 := Lib.hid hw9
          have HV9 := Lib.hid hb9
          have F9 := Lib.hid (F7.out.trans' (hf8.trans' hf9))
          have P1 := Lib.hid (hq1.fr hf9 (fun _ _ _ f => f))
          have P2 := Lib.hid (hq2.fr hf9 (fun _ _ _ f => f))
          have P3 := Lib.hid (hq3.fr hf9 (fun _ _ _ f => f))
          replace Q1 := Lib.hid (Q1.out.fr F9.out (fun _ _ _ f => f))
          replace Q2 := Lib.hid (Q2.out.fr F9.out (fun _ _ _ f => f))
          replace Q3 := Lib.hid (Q3.out.fr F9.out (fun _ _ _ f => f))
          have HU9 := Lib.hid (F9.out.heap HU5.out (fun f => f))
          have HF9 := Lib.hid (HF5.out.trans' F9.out)
          clear hq1 hq2 hq3 hq4 hq5 hf8 hf9 hb9 hw9 HU5 HB5 Hradm L2 L3
          go_upto_region 14 with (fail)
          rw [HW9.out]
          clear HW9
          generalize w8.heap.size = gv at *
          have t0 := cell_of_block (j := 0) HU9.out rfl
          have t1 := cell_of_block (j := 1) HU9.out rfl
          have t2 := cell_of_block (j := 2) HU9.out rfl
          have t3 := cell_of_block (j := 3) HU9.out rfl
          have x0 := cell_of_block (j := 0) HV9.out rfl
          have x1 := cell_of_block (j := 1) HV9.out rfl
          have x2 := cell_of_block (j := 2) HV9.out rfl
          have x3 := cell_of_block (j := 3) HV9.out rfl
          obtain ⟨Sg625_0, HSg625_0⟩ : ∃ S : World → Prop, Hid (S = (fun w' => w'.cell? ⟨gu, 0, none⟩ = some (.int .i64 own) ∧ w'.cell? ⟨gu, 1, none⟩ = some (.int .i64 nx) ∧ w'.cell? ⟨gu, 2, none⟩ = some (.slice uo un uc) ∧ w'.cell? ⟨gu, 3, none⟩ = some (.slice lo ln lc) ∧ w'.cell? ⟨gv, 0, none⟩ = some (.int .i64 own) ∧ w'.cell? ⟨gv, 1, none⟩ = some (.int .i64 nx) ∧ w'.cell? ⟨gv, 2, none⟩ = some (.slice uo3 un uc3) ∧ w'.cell? ⟨gv, 3, none⟩ = some (.slice lo3 ln lc3))) := ⟨_, Lib.hid rfl⟩
          refine wp_heldp [] (pickS [Sg625_0]) (by kernel_rfl) ?_ (fun hHeld => ?_)
          · show Sg625_0 _; rw [HSg625_0.out]; exact ⟨t0, t1, t2, t3, x0, x1, x2, x3⟩
          obtain ⟨wc, hwc⟩ : ∃ x, w9.drew = x := ⟨_, rfl⟩; rw [hwc] at hHeld; rw [hwc]; have HF : Hid (Fr no w9 wc) := (by rw [← hwc]; exact Lib.hid ((Fr.refl no w9).drewN 1)); clear hwc
          refine heldp_take (v := ?_) 0 0 rfl (by kernel_rfl) (.inl ⟨by rfl, ?_⟩) hHeld ?_
          rotate_left
          · intro w hSw; replace hSw : Sg625_0 w := hSw; rw [HSg625_0.out] at hSw; (try dsimp only at hSw); first | (go_simp; done) | (go_simp; with_reducible rfl)
          try simp only [Act.put, List.setIfInBounds_toArray, List.set_cons_zero, List.set_cons_succ]
          refine heldp_take (v := ?_) 2 0 rfl (by kernel_rfl) (.inl ⟨by rfl, ?_⟩) hHeld ?_
          rotate_left
          · intro w hSw; replace hSw : Sg625_0 w := hSw; rw [HSg625_0.out] at hSw; (try dsimp only at hSw); first | (go_simp; done) | (go_simp; with_reducible rfl)
          try simp only [Act.put, List.setIfInBounds_toArray, List.set_cons_zero, List.set_cons_succ]
          refine heldp_call 1 0 rfl (by kernel_rfl) (fun K hK => ?_)
          go_simp
          have hofu : Calls Try.prog 12 #[.agg #[.int .i64 own, .int .i64 nx, .slice uo un uc, .slice lo ln lc]] wc (fun e w' => ∃ ao cap, e = .returned (.agg #[.int .i64 own, .int .i64 nx, .slice uo un uc, .slice ao ln cap]) ∧ Rd w' 6 (.slice ao ln cap) ln (drCells la) ∧ Fr no wc w') := (by have h := lOf own nx (.slice uo un uc) (.slice lo ln lc) us la wc (by show Rd wc 1 _ us.length _; rw [Hun.out]; exact Q1.out.fr HF.out (fun _ _ _ f => f)) (by show Rd wc 6 _ la.length _; rw [Hln.out]; exact Q2.out.fr HF.out (fun _ _ _ f => f)) (fun d hm => Rd.fr (Q4.out d hm) (F9.out.trans' HF.out) (fun _ _ _ f => f)) (by rw [Hln.out]; omega); rw [Hln.out] at h; exact h.mono (fun e w' ⟨ao, cap, he, hO⟩ => ⟨ao, cap, he, hO.rd, hO.fr⟩))
          go_at_call 12
          refine hofu.mono ?_
          rintro e wc ⟨ao, cap, rfl, hla1, hfd⟩
          have HL1 := Lib.hid hla1
          replace HF := Lib.hid (HF.out.trans' hfd)
          clear hfd hla1 hofu
          refine hK.out _ _ ?_ (fun hHeld' => ?_)
          · show Sg625_0 _; rw [HSg625_0.out]; have hq := HF.out; exact ⟨hq.cell t0 (fun f => f), hq.cell t1 (fun f => f), hq.cell t2 (fun f => f), hq.cell t3 (fun f => f), hq.cell x0 (fun f => f), hq.cell x1 (fun f => f), hq.cell x2 (fun f => f), hq.cell x3 (fun f => f)⟩
          clear hK K hHeld
          have hHeld := hHeld'
          clear hHeld'
          try simp only [Act.put, List.setIfInBounds_toArray, List.set_cons_zero, List.set_cons_succ]
          refine heldp_call 3 0 rfl (by kernel_rfl) (fun K hK => ?_)
          go_simp
          have hsame := lSame own nx (.slice uo un uc) (.slice uo3 un uc3) (.slice ao ln cap) (.slice lo3 ln lc3) us la wc (by show Rd wc 1 _ us.length _; rw [Hun.out]; exact Q1.out.fr HF.out (fun _ _ _ f => f)) (by show Rd wc 1 _ us.length _; rw [Hun.out]; exact P1.out.fr HF.out (fun _ _ _ f => f)) (by show Rd wc 6 _ la.length _; rw [Hln.out]; exact HL1.out) (by show Rd wc 6 _ la.length _; rw [Hln.out]; exact P2.out.fr HF.out (fun _ _ _ f => f)) (fun d hm => Rd.fr (Q4.out d hm) (F9.out.trans' HF.out) (fun _ _ _ f => f))
          go_at_call 20
          refine hsame.mono ?_
          rintro e wc ⟨rfl, hfd⟩
          replace HF := Lib.hid (HF.out.trans' hfd)
          clear hfd hsame
          refine hK.out _ _ ?_ (fun hHeld' => ?_)
          · show Sg625_0 _; rw [HSg625_0.out]; have hq := HF.out; exact ⟨hq.cell t0 (fun f => f), hq.cell t1 (fun f => f), hq.cell t2 (fun f => f), hq.cell t3 (fun f => f), hq.cell x0 (fun f => f), hq.cell x1 (fun f => f), hq.cell x2 (fun f => f), hq.cell x3 (fun f => f)⟩
          clear hK K hHeld
          have hHeld := hHeld'
          clear hHeld'
          try simp only [Act.put, List.setIfInBounds_toArray, List.set_cons_zero, List.set_cons_succ]
          refine heldp_take (v := ?_) 4 0 rfl (by kernel_rfl) (.inl ⟨by rfl, ?_⟩) hHeld ?_
          rotate_left
          · intro w hSw; replace hSw : Sg625_0 w := hSw; rw [HSg625_0.out] at hSw; (try dsimp only at hSw); first | (go_simp; done) | (go_simp; with_reducible rfl)
          try simp only [Act.put, List.setIfInBounds_toArray, List.set_cons_zero, List.set_cons_succ]
          refine heldp_take (v := ?_) 5 0 rfl (by kernel_rfl) (.inl ⟨by rfl, ?_⟩) hHeld ?_
          rotate_left
          · intro w hSw; replace hSw : Sg625_0 w := hSw; rw [HSg625_0.out] at hSw; (try dsimp only at hSw); first | (go_simp; done) | (go_simp; with_reducible rfl)
          try simp only [Act.put, List.setIfInBounds_toArray, List.set_cons_zero, List.set_cons_succ]
          refine heldp_take (v := ?_) 6 0 rfl (by kernel_rfl) (.inl ⟨by rfl, ?_⟩) hHeld ?_
          rotate_left
          · intro w hSw; replace hSw : Sg625_0 w := hSw; rw [HSg625_0.out] at hSw; (try dsimp only at hSw); first | (go_simp; done) | (go_simp; with_reducible rfl)
          try simp only [Act.put, List.setIfInBounds_toArray, List.set_cons_zero, List.set_cons_succ]
          refine heldp_call 7 0 rfl (by kernel_rfl) (fun K hK => ?_)
          go_simp
          have hslots := lSameSlots (.slice oo om oc) (.slice oo3 om oc3) out wc (by rw [Hom.out]; exact Q3.out.fr HF.out (fun _ _ _ f => f)) (by rw [Hom.out]; exact P3.out.fr HF.out (fun _ _ _ f => f)) (fun x hm => Rd.fr (Q5.out x hm) (F9.out.trans' HF.out) (fun _ _ _ f => f))
          go_at_call 21
          refine hslots.mono ?_
          rintro e wc ⟨rfl, hfd⟩
          replace HF := Lib.hid (HF.out.trans' hfd)
          clear hfd hslots
          refine hK.out _ _ ?_ (fun hHeld' => ?_)
          · show Sg625_0 _; rw [HSg625_0.out]; have hq := HF.out; exact ⟨hq.cell t0 (fun f => f), hq.cell t1 (fun f => f), hq.cell t2 (fun f => f), hq.cell t3 (fun f => f), hq.cell x0 (fun f => f), hq.cell x1 (fun f => f), hq.cell x2 (fun f => f), hq.cell x3 (fun f => f)⟩
          clear hK K hHeld
          have hHeld := hHeld'
          clear hHeld'
          try simp only [Act.put, List.setIfInBounds_toArray, List.set_cons_zero, List.set_cons_succ]
          refine heldp_take (v := ?_) 8 0 rfl (by kernel_rfl) (.inl ⟨by rfl, ?_⟩) hHeld ?_
          rotate_left
          · intro w hSw; replace hSw : Sg625_0 w := hSw; rw [HSg625_0.out] at hSw; (try dsimp only at hSw); first | (go_simp; done) | (go_simp; with_reducible rfl)
          try simp only [Act.put, List.setIfInBounds_toArray, List.set_cons_zero, List.set_cons_succ]
          refine heldp_take (v := ?_) 9 0 rfl (by kernel_rfl) (.inl ⟨by rfl, ?_⟩) hHeld ?_
          rotate_left
          · intro w hSw; replace hSw : Sg625_0 w := hSw; rw [HSg625_0.out] at hSw; (try dsimp only at hSw); first | (go_simp; done) | (go_simp; with_reducible rfl)
          try simp only [Act.put, List.setIfInBounds_toArray, List.set_cons_zero, List.set_cons_succ]
          refine heldp_done (by kernel_rfl) ?_
          try clear hHeld
          clear HSg625_0
          try clear Sg625_0
          clear t0 t1 t2 t3 x0 x1 x2 x3
          go_wp2
          go_ret
          exact ⟨rfl, HF9.out.trans' HF.out⟩
end Go.Proofs.Ytdddgfienicaaaa
