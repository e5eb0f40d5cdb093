/- Laws of the token: good. -/
import Derived.Test.YtdddgfienicaaaaTokG2
namespace Go.XL
open Go.RowKit Go.Shelf
set_option linter.unusedVariables false
abbrev DrGood (d : Dr) : Prop := (0 ≤ d.s ∧ d.s < 8) ∧ vcheck d.dep 8 = 0 ∧ 0 ≤ d.q ∧ d.q ≤ 1048576
end Go.XL
namespace Go.Proofs.Ytdddgfienicaaaa
open Go.RowKit Go.Shelf Go.XL
set_option linter.unusedVariables false
set_option linter.unusedSimpArgs false
attribute [local go_sem] Oper.semAt_some

set_option maxRecDepth 100000 in
set_option maxHeartbeats 4000000 in
theorem lGood (own next : Int) (sv v0 v1 : Value) (seen : List Int) (late l : List Dr) (w : World) (hs : IntsAt w sv seen) (h0 : DrsAt w v0 late) (h1 : DrsAt w v1 l) (hd : ∀ d ∈ late ++ l, DrOk w d) :
    Calls Try.prog 13 #[tkV own next sv v0, v1] w fun e w' => (e = .returned (.bool false) ∨ (e = .returned (.bool true) ∧ GoodP own next seen late l)) ∧ Fr no w w' := by
  obtain ⟨so, sc, rfl, _, _⟩ := hs.cap
  obtain ⟨a0, c0, rfl, _, _⟩ := h0.cap
  obtain ⟨a1, c1, rfl, _, _⟩ := h1.cap
  have hdl : ∀ d ∈ late, DrOk w d := fun d h => hd d (by simp [h])
  have hd1 : ∀ d ∈ l, DrOk w d := fun d h => hd d (by simp [h])
  have Hf0 := Lib.hid (fun (w' : World) (hf : Fr no w w') => lFew (.slice a0 late.length c0) late w' (Rd.fr h0 hf (fun _ _ _ f => f)) (fun d h => Rd.fr (hdl d h) hf (fun _ _ _ f => f)))
  have Hf1 := Lib.hid (fun (w' : World) (hf : Fr no w w') => lFew (.slice a1 l.length c1) l w' (Rd.fr h1 hf (fun _ _ _ f => f)) (fun d h => Rd.fr (hd1 d h) hf (fun _ _ _ f => f)))
  have hof : late.length ≤ 40 → ∀ (w' : World) (hf : Fr no w w'), Calls Try.prog 12 #[.agg #[.int .i64 own, .int .i64 next, .slice so seen.length sc, .slice a0 late.length c0]] w' fun e w2 => ∃ ao cap, e = .returned (.agg #[.int .i64 own, .int .i64 next, .slice so seen.length sc, .slice ao late.length cap]) ∧ Fr no w' w2 := fun hl w' hf =>
    (lOf own next (.slice so seen.length sc) (.slice a0 late.length c0) seen late w' (hs.fr hf (fun _ _ _ f => f)) (Rd.fr h0 hf (fun _ _ _ f => f)) (fun d h => Rd.fr (hdl d h) hf (fun _ _ _ f => f)) (by omega)).mono (fun e w2 ⟨ao, cap, he, hO⟩ => ⟨ao, cap, he, hO.fr⟩)
  have Hof := Lib.hid hof
  have Hck := Lib.hid (fun (w' : World) (hf : Fr no w w') (lo : Option Addr) (ll lc : Nat) => ref_checkToken own next (.slice so seen.length sc) (.slice lo ll lc) seen w' (hs.fr hf (fun _ _ _ f => f)) lo ll lc rfl)
  have H0 : Hid (Rd w 6 (.slice a0 late.length c0) late.length (drCells late)) := Lib.hid h0
  have H1 : Hid (Rd w 6 (.slice a1 l.length c1) l.length (drCells l)) := Lib.hid h1
  have Hd := Lib.hid hd
  have hone0 : ∀ u ∈ drCells late, u.oneCell' = true := drCells_one hdl
  have hone1 : ∀ u ∈ drCells l, u.oneCell' = true := drCells_one hd1
  have Hone0 := Lib.hid hone0
  have Hone1 := Lib.hid hone1
  have hgp : late.length ≤ 40 → l.length ≤ 40 → seen.length ≤ 70 → tcheck own next seen = 0 → next ≤ 1073741824 → (∀ d ∈ late ++ l, DrGood d) → GoodP own next seen late l := fun a b c d e f => ⟨a, b, c, d, e, f⟩
  have Hgp := Lib.hid hgp
  clear hs h0 h1 hd hdl hd1 hof hone0 hone1 hgp
  unfold tkV
  generalize hn0 : late.length = n0 at *
  generalize hn1 : l.length = n1 at *
  have Hn0 := Lib.hid hn0
  have Hn1 := Lib.hid hn1
  clear hn0 hn1
  generalize seen.length = sn at *
  generalize tcheck own next seen = ck at *
  have hfb : Fr no w (w.alloc (.cells #[.int .i64 own, .int .i64 next, .slice so sn sc, .slice a0 n0 c0] 26)) := (Fr.refl no w).alloc _
  have hb := World.alloc_heap_new w (.cells #[.int .i64 own, .int .i64 next, .slice so sn sc, .slice a0 n0 c0] 26)
  have t3 := cell_of_block (j := 3) hb rfl
  have HFb := Lib.hid hfb
  have HB := Lib.hid hb
  clear hfb hb
  go_enter Try.func13, Try.ntmps13
  go_wp2_with fail
  refine (Hf0.out _ HFb.out).mono ?_
  rintro e w2 ⟨b, rfl, hb, hf2⟩
  have HF2 := Lib.hid (HFb.out.trans' hf2)
  have HB2 := Lib.hid (hf2.heap HB.out (fun f => f))
  clear hf2 t3 HB HFb Hf0
  cases b
  · clear hb
    go_wp2
    go_ret
    exact ⟨.inl rfl, HF2.out⟩
  · have hb0 : n0 ≤ 40 := hb rfl
    clear hb
    go_wp2_with fail
    refine (Hf1.out _ HF2.out).mono ?_
    rintro e w3 ⟨b, rfl, hb, hf3⟩
    have HF3 := Lib.hid (HF2.out.trans' hf3)
    have HB3 := Lib.hid (hf3.heap HB2.out (fun f => f))
    have t0 := cell_of_block (j := 0) HB3.out rfl
    have t1 := cell_of_block (j := 1) HB3.out rfl
    have t2 := cell_of_block (j := 2) HB3.out rfl
    have t3 := cell_of_block (j := 3) HB3.out rfl
    clear hf3 HF2 HB2 Hf1
    cases b
    · clear hb
      go_wp2
      go_ret
      exact ⟨.inl rfl, HF3.out⟩
    · have hb1 : n1 ≤ 40 := hb rfl
      clear hb
      by_cases h70 : 70 < sn
      · go_wp2
        go_ret
        exact ⟨.inl rfl, HF3.out⟩
      · go_wp2_with fail
        refine (Hof.out hb0 _ HF3.out).mono ?_
        rintro e w4 ⟨ao, cap, rfl, hf4⟩
        have HF4 := Lib.hid (HF3.out.trans' hf4)
        have HB4 := Lib.hid (hf4.heap HB3.out (fun f => f))
        clear hf4 t0 t1 t2 t3 HF3 HB3 Hof
        go_wp2_with fail
        refine (Hck.out _ HF4.out ao n0 cap).mono ?_
        rintro e w5 ⟨rfl, hf5⟩
        have HF5 := Lib.hid (HF4.out.trans' hf5)
        have HB5 := Lib.hid (hf5.heap HB4.out (fun f => f))
        have t1 := cell_of_block (j := 1) HB5.out rfl
        have t3 := cell_of_block (j := 3) HB5.out rfl
        clear hf5 HF4 HB4 Hck
        by_cases hck : ck = 0
        · by_cases hnx : 1073741824 < next
          · subst hck
            go_wp2
            go_ret
            exact ⟨.inl rfl, HF5.out⟩
          · subst hck
            obtain ⟨j0, hj0, jz0, jz1, jz2⟩ := info_parts (show (Try.prog.info? 41).map (fun i => (i.zero, i.size, i.bytes)) = some (some (.agg #[.int .i64 0, .int .i64 0, .int .i64 0, .slice none 0 0, .string ByteArray.empty, .string ByteArray.empty]), 6, 80) by kernel_rfl)
            have hE := Lib.hid (ow_empty w5 41 6)
            have t3' := hE.out.fr.cell t3 (fun f => f)
            clear t3
            go_wp2_with (at_builtin; refine wpList_append_all (w5.alloc (.cells #[] 41)) rfl _ _ 24 rfl 41 j0 _ 6 80 Try.underlying24 hj0 jz0 jz1 jz2 rfl (by decide) _ _ _ rfl hE.out.sl _ _ _ rfl (H0.out.fr (HF5.out.trans' hE.out.fr) (fun _ _ _ f => f)) Hone0.out (by unfold maxLen; omega) (by omega) ?_)
            intro ao6 cap6 w6 hs6 hf6 ho6 _
            have hO6 := hE.out.app hs6 hf6 (by simpa using ho6)
            have HO6 := Lib.hid hO6
            clear hs6 hf6 ho6 hO6 hE t3' t1
            go_wp2_with (at_builtin; refine wpList_append_all w6 rfl _ _ 24 rfl 41 j0 _ 6 80 Try.underlying24 hj0 jz0 jz1 jz2 rfl (by decide) _ _ _ rfl HO6.out.sl _ _ _ rfl (H1.out.fr (HF5.out.trans' HO6.out.fr) (fun _ _ _ f => f)) Hone1.out (by unfold maxLen; omega) (by omega) ?_)
            intro ao7 cap7 w7 hs7 hf7 ho7 _
            rw [← drCells_append] at hs7
            have HO7 := Lib.hid (HO6.out.app hs7 hf7 ho7)
            have HF7 := Lib.hid (HF5.out.trans' HO7.out.fr)
            obtain ⟨all, hall⟩ : ∃ all, late ++ l = all := ⟨_, rfl⟩
            have hlen : all.length = n0 + n1 := by rw [← hall, List.length_append, Hn0.out, Hn1.out]
            have HR : Hid (Rd w7 6 (.slice ao7 (n0 + n1) cap7) (n0 + n1) (drCells all)) := by rw [← hall]; exact Lib.hid HO7.out.rd
            rw [hall] at Hd Hgp
            clear hs7 hf7 ho7 HO6 HO7 hj0 jz0 jz1 jz2 hall HB5 H0 H1 Hone0 Hone1
            generalize hnn : n0 + n1 = N at *
            have hN : N ≤ 80 := by omega
            go_wp2_with fail
            go_loopw [6] (fun iv wr => ∃ i : Nat, i ≤ N ∧ iv = .int .i64 i ∧ Hid (Fr no w7 wr) ∧ Hid (∀ d ∈ all.take i, DrGood d)) (fun iv _ => N - (intOf iv).toNat)
            case atStart => exact ⟨0, Nat.zero_le _, rfl, Lib.hid (Fr.refl _ _), Lib.hid (fun d h => by simp at h)⟩
            case round =>
              obtain ⟨i, hi, rfl, hF, hG⟩ := hrel
              generalize wr = W at *
              by_cases hlt : i < N
              · obtain ⟨d, hdk⟩ : ∃ x, all[i]? = some x := ⟨all[i]'(by rw [hlen]; exact hlt), by simp⟩
                have hdo := Hd.out d (List.mem_of_getElem? hdk)
                obtain ⟨g, off, c', he, e0, e1, e2, e3, e4, e5⟩ := drs_cells (w := W) (v := .slice ao7 N cap7) (l := all) (by show Rd W 6 _ all.length _; rw [hlen]; exact HR.out.fr hF.out (fun _ _ _ f => f)) hdk
                rw [hlen] at he
                cases he
                have htk : all.take (i + 1) = all.take i ++ [d] := by rw [List.take_add_one, hdk]; simp
                have hgk : DrGood d → Hid (∀ x ∈ all.take (i + 1), DrGood x) := fun hg => Lib.hid (fun x hx => by
                  rw [htk] at hx
                  rcases List.mem_append.1 hx with hx | hx
                  · exact hG.out x hx
                  · simp at hx; subst hx; exact hg)
                have Hgk := Lib.hid hgk
                have Hcv := Lib.hid (fun (w' : World) (hf : Fr no w w') => ref_check d.dv d.dep 8 w' (Rd.fr hdo hf (fun _ _ _ f => f)))
                obtain ⟨dt, ds, dq, dv, dep, dk, dx⟩ := d
                obtain ⟨dO, dc, hdv, _, _⟩ := Rd.cap hdo
                dsimp only at *
                subst hdv
                have hfa : Fr no W (W.alloc (.cells #[.int .i64 ds, .int .i64 dq, .slice dO dep.length dc, .string dk, .string dx] 39)) := (Fr.refl no W).alloc _
                have HFa := Lib.hid (hF.out.trans' hfa)
                generalize hvv : vcheck dep 8 = vv at *
                have Hvv := Lib.hid hvv
                clear hdk hdo htk hgk hG hF hfa hvv
                by_cases k1 : ds < 0
                · go_wp2
                  go_ret
                  exact ⟨.inl rfl, HF7.out.trans' HFa.out⟩
                · by_cases k2 : 8 ≤ ds
                  · go_wp2
                    go_ret
                    exact ⟨.inl rfl, HF7.out.trans' HFa.out⟩
                  · go_wp2_with fail
                    refine (Hcv.out _ (HF7.out.trans' HFa.out)).mono ?_
                    rintro e w9 ⟨rfl, rfl⟩
                    by_cases k3 : vv = 0
                    · subst k3
                      by_cases k4 : dq < 0
                      · go_wp2
                        go_ret
                        exact ⟨.inl rfl, HF7.out.trans' HFa.out⟩
                      · by_cases k5 : 1048576 < dq
                        · go_wp2
                          go_ret
                          exact ⟨.inl rfl, HF7.out.trans' HFa.out⟩
                        · have HG2 := Hgk.out ⟨⟨by show 0 ≤ ds; omega, by show ds < 8; omega⟩, Hvv.out, by show 0 ≤ dq; omega, by show dq ≤ 1048576; omega⟩
                          clear Hgk Hvv Hcv
                          go_wp2
                          go_roundw
                          case rel => exact ⟨i + 1, by omega, by go_num, HFa, HG2⟩
                          case measure => simp [intOf]; omega
                    · go_wp2
                      go_ret
                      exact ⟨.inl rfl, HF7.out.trans' HFa.out⟩
              · obtain rfl : i = N := by omega
                have hg2 := hG.out
                rw [List.take_of_length_le (by rw [hlen]; exact Nat.le_refl _)] at hg2
                have HG2 := Lib.hid hg2
                clear hG hg2
                go_wp2
                go_ret
                exact ⟨.inr ⟨rfl, Hgp.out hb0 hb1 (by omega) trivial (by omega) HG2.out⟩, HF7.out.trans' hF.out⟩
        · go_wp2
          go_ret
          exact ⟨.inl rfl, HF5.out⟩
end Go.Proofs.Ytdddgfienicaaaa
