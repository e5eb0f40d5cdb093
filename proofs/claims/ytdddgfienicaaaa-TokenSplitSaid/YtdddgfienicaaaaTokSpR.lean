/- TokenSplit, walked. -/
import Derived.Test.YtdddgfienicaaaaTokAmR
import Derived.Test.YtdddgfienicaaaaTokSt
import Derived.IntWalk
namespace Go.Proofs.Ytdddgfienicaaaa
open Go.RowKit Go.Shelf Go.XL
set_option linter.unusedVariables false
set_option linter.unusedSimpArgs false
attribute [local go_sem] Oper.semAt_some

set_option maxRecDepth 100000 in
set_option maxHeartbeats 8000000 in
theorem tokenSplit_any (own next : Int) (sv v0 v1 : Value) (seen : List Int) (late l : List Dr) (w : World) (hs : IntsAt w sv seen) (h0 : DrsAt w v0 late) (h1 : DrsAt w v1 l) (hd : ∀ d ∈ late ++ l, DrOk w d) :
    Calls Try.prog 7 #[tkV own next sv v0, v1] w fun e w' => e = .returned (.bool true) ∧ Fr no w w' := by
  obtain ⟨so, sc, rfl, _, _⟩ := hs.cap
  obtain ⟨a0, c0, rfl, _, _⟩ := h0.cap
  obtain ⟨a1, c1, rfl, _, _⟩ := h1.cap
  have hdl : ∀ d ∈ late, DrOk w d := fun d h => hd d (by simp [h])
  have hd1 : ∀ d ∈ l, DrOk w d := fun d h => hd d (by simp [h])
  have Hgood := Lib.hid (fun (w' : World) (hf : Fr no w w') => lGood own next (.slice so seen.length sc) (.slice a0 late.length c0) (.slice a1 l.length c1) seen late l w' (hs.fr hf (fun _ _ _ f => f)) (Rd.fr h0 hf (fun _ _ _ f => f)) (Rd.fr h1 hf (fun _ _ _ f => f)) (fun d h => Rd.fr (hd d h) hf (fun _ _ _ f => f)))
  obtain ⟨R, hR⟩ : ∃ R, ago own (late.length + l.length) ⟨next, seen, late ++ l, []⟩ = R := ⟨_, rfl⟩
  obtain ⟨nx, hnx⟩ : ∃ nx, R.next = nx := ⟨_, rfl⟩
  obtain ⟨us, hus⟩ : ∃ us, R.seen = us := ⟨_, rfl⟩
  obtain ⟨la, hla⟩ : ∃ la, alate own R.seen R.left [] = la := ⟨_, rfl⟩
  obtain ⟨out, hout⟩ : ∃ out, R.out = out := ⟨_, rfl⟩
  obtain ⟨un, hun⟩ : ∃ un, us.length = un := ⟨_, rfl⟩
  obtain ⟨ln, hln⟩ : ∃ ln, la.length = ln := ⟨_, rfl⟩
  obtain ⟨om, hom⟩ : ∃ om, out.length = om := ⟨_, rfl⟩
  have hadm : GoodP own next seen late l → ∀ (w' : World) (hf : Fr no w w'), Calls Try.prog 17 #[.agg #[.int .i64 own, .int .i64 next, .slice so seen.length sc, .slice a0 late.length c0], .slice a1 l.length c1] w' fun e w2 => AdQ w' w2 own nx us la out un ln om e := fun hg w' hf =>
    (tAdmit own next _ _ _ seen late l w' (hs.fr hf (fun _ _ _ f => f)) (goodP_seen hg).1 (Rd.fr h0 hf (fun _ _ _ f => f)) (Rd.fr h1 hf (fun _ _ _ f => f)) (fun d h => Rd.fr (hd d h) hf (fun _ _ _ f => f)) (fun d h => (hg.dr d h).2.2) (by have := hg.n1; have := hg.n2; omega) (by have := hg.n3; omega) (goodP_seen hg).2.1 (by have := hg.nx; omega)).mono (fun e w2 ⟨sv', tv', ov', he, hq⟩ => by
      rw [hR] at he hq
      exact hq.q he hnx hus hla hout hun hln hom)
  have hgn : GoodP own next seen late l → late.length ≤ 40 ∧ l.length ≤ 40 := fun h => ⟨h.n1, h.n2⟩
  have H0 : Hid (Rd w 6 (.slice a0 late.length c0) late.length (drCells late)) := Lib.hid h0
  have H1 : Hid (Rd w 6 (.slice a1 l.length c1) l.length (drCells l)) := Lib.hid h1
  have Hs : Hid (IntsAt w (.slice so seen.length sc) seen) := Lib.hid hs
  have Hadm := Lib.hid hadm
  have Hgn := Lib.hid hgn
  have Hd := Lib.hid hd
  have Hun := Lib.hid hun
  have Hln := Lib.hid hln
  have Hom := Lib.hid hom
  have HR := Lib.hid hR
  have Hnx := Lib.hid hnx
  have Hus := Lib.hid hus
  have Hla := Lib.hid hla
  have Hout := Lib.hid hout
  clear hs h0 h1 hd hdl hd1 hadm hgn hR hnx hus hla hout hun hln hom
  unfold tkV at Hgood ⊢
  generalize hn0 : late.length = n0 at *
  generalize hn1 : l.length = n1 at *
  have Hn0 := Lib.hid hn0
  have Hn1 := Lib.hid hn1
  clear hn0 hn1
  generalize hsn : seen.length = sn at *
  have Hsn := Lib.hid hsn
  clear hsn
  have hfb : Fr no w (w.alloc (.cells #[.int .i64 own, .int .i64 next, .slice so sn sc, .slice a0 n0 c0] 26)) := (Fr.refl no w).alloc _
  have hb := World.alloc_heap_new w (.cells #[.int .i64 own, .int .i64 next, .slice so sn sc, .slice a0 n0 c0] 26)
  have HFb := Lib.hid hfb
  have HB := Lib.hid hb
  clear hfb hb
  go_enter Try.func7, Try.ntmps7
  go_wp2_with fail
  refine (law_known _).mono ?_
  rintro e w1 ⟨rfl, hf1⟩
  have HF1 := Lib.hid (HFb.out.trans' hf1)
  have HB1 := Lib.hid (hf1.heap HB.out (fun f => f))
  have t0 := cell_of_block (j := 0) HB1.out rfl
  have t1 := cell_of_block (j := 1) HB1.out rfl
  have t2 := cell_of_block (j := 2) HB1.out rfl
  have t3 := cell_of_block (j := 3) HB1.out rfl
  clear hf1 HB HFb
  go_wp2_with fail
  refine (Hgood.out _ HF1.out).mono ?_
  rintro e w3 ⟨he, hf3⟩
  have HF3 := Lib.hid (HF1.out.trans' hf3)
  have HB3 := Lib.hid (hf3.heap HB1.out (fun f => f))
  clear hf3 t0 t1 t2 t3 HF1 HB1 Hgood
  rcases he with rfl | ⟨rfl, hg⟩
  · go_wp2
    go_ret
    exact ⟨rfl, HF3.out⟩
  · have HG := Lib.hid hg
    obtain ⟨hg0, hg1⟩ := Hgn.out hg
    clear hg Hgn
    go_wp2_with fail
    go_loopw [5] (fun iv wr => ∃ i : Nat, i ≤ n1 ∧ iv = .int .i64 i ∧ Hid (∀ d ∈ l.take i, d.s ≠ own) ∧ Hid (Fr no w3 wr)) (fun iv _ => n1 - (intOf iv).toNat)
    case atStart => exact ⟨0, Nat.zero_le _, rfl, Lib.hid (fun d h => by simp at h), Lib.hid (Fr.refl _ _)⟩
    case round =>
      obtain ⟨i, hi, rfl, hO, hF⟩ := hrel
      generalize wr = V at *
      by_cases hlt : i < n1
      · obtain ⟨d, hdk⟩ : ∃ x, l[i]? = some x := ⟨l[i]'(by rw [Hn1.out]; exact hlt), by simp⟩
        obtain ⟨g, off, c', he, e0, e1, e2, e3, e4, e5⟩ := drs_cells (w := V) (v := .slice a1 n1 c1) (l := l) (by show Rd V 6 _ l.length _; rw [Hn1.out]; exact H1.out.fr (HF3.out.trans' hF.out) (fun _ _ _ f => f)) hdk
        rw [Hn1.out] at he
        cases he
        have z0 := cell_of_block (j := 0) (hF.out.heap HB3.out (fun f => f)) rfl
        have htk : l.take (i + 1) = l.take i ++ [d] := by rw [List.take_add_one, hdk]; simp
        have hnext : d.s ≠ own → Hid (∀ x ∈ l.take (i + 1), x.s ≠ own) := fun h => Lib.hid (fun x hx => by
          rw [htk] at hx
          rcases List.mem_append.1 hx with hx | hx
          · exact hO.out x hx
          · simp at hx; subst hx; exact h)
        obtain ⟨dt, ds, dq, dv, dep, dk, dx⟩ := d
        dsimp only at *
        clear hdk htk hO e0 e2 e3 e4 e5
        by_cases hso : ds = own
        · clear hnext
          subst hso
          go_upto_region 8 with (fail)
          go_quiet (fail)
          go_wp2
          go_ret
          exact ⟨rfl, (HF3.out.trans' hF.out).drewN _⟩
        · have HO2 := hnext hso
          clear hnext
          go_upto_region 8 with (fail)
          go_quiet (fail)
          go_wp2
          go_roundw
          case rel => exact ⟨i + 1, by omega, by go_num, HO2, Lib.hid (hF.out.drewN _)⟩
          case measure => simp [intOf]; omega
      · have hol : ∀ d ∈ l, d.s ≠ own := fun d hd => hO.out d (by rw [show i = l.length by rw [Hn1.out]; omega, List.take_length]; exact hd)
        have HOl := Lib.hid hol
        have HBV := Lib.hid (hF.out.heap HB3.out (fun f => f))
        have HFV := Lib.hid (HF3.out.trans' hF.out)
        clear hol hO hF HB3 HF3
        go_wp2_with fail
        go_loopw [6] (fun iv wr => ∃ k : Nat, k ≤ n0 ∧ iv = .int .i64 k ∧ Hid (∀ d ∈ late.take k, d.s ≠ own) ∧ Hid (Fr no V wr)) (fun iv _ => n0 - (intOf iv).toNat)
        case atStart => exact ⟨0, Nat.zero_le _, rfl, Lib.hid (fun d h => by simp at h), Lib.hid (Fr.refl _ _)⟩
        case round =>
          obtain ⟨k, hk, rfl, hO, hF⟩ := hrel
          generalize wr = X at *
          have z0 := cell_of_block (j := 0) (hF.out.heap HBV.out (fun f => f)) rfl
          have z3 := cell_of_block (j := 3) (hF.out.heap HBV.out (fun f => f)) rfl
          by_cases hlt : k < n0
          · obtain ⟨d, hdk⟩ : ∃ x, late[k]? = some x := ⟨late[k]'(by rw [Hn0.out]; exact hlt), by simp⟩
            obtain ⟨g, off, c', he, e0, e1, e2, e3, e4, e5⟩ := drs_cells (w := X) (v := .slice a0 n0 c0) (l := late) (by show Rd X 6 _ late.length _; rw [Hn0.out]; exact H0.out.fr (HFV.out.trans' hF.out) (fun _ _ _ f => f)) hdk
            rw [Hn0.out] at he
            cases he
            have htk : late.take (k + 1) = late.take k ++ [d] := by rw [List.take_add_one, hdk]; simp
            have hnext : d.s ≠ own → Hid (∀ x ∈ late.take (k + 1), x.s ≠ own) := fun h => Lib.hid (fun x hx => by
              rw [htk] at hx
              rcases List.mem_append.1 hx with hx | hx
              · exact hO.out x hx
              · simp at hx; subst hx; exact h)
            obtain ⟨dt, ds, dq, dv, dep, dk, dx⟩ := d
            dsimp only at *
            clear hdk htk hO e0 e2 e3 e4 e5
            by_cases hso : ds = own
            · clear hnext
              subst hso
              go_upto_region 13 with (fail)
              go_quiet (fail)
              go_wp2
              go_ret
              exact ⟨rfl, (HFV.out.trans' hF.out).drewN _⟩
            · have HO2 := hnext hso
              clear hnext
              go_upto_region 13 with (fail)
              go_quiet (fail)
              go_wp2
              go_roundw
              case rel => exact ⟨k + 1, by omega, by go_num, HO2, Lib.hid (hF.out.drewN _)⟩
              case measure => simp [intOf]; omega
          · have hoa : ∀ d ∈ late ++ l, d.s ≠ own := fun d hd => by
              rcases List.mem_append.1 hd with hd | hd
              · exact hO.out d (by rw [show k = late.length by rw [Hn0.out]; omega, List.take_length]; exact hd)
              · exact HOl.out d hd
            have HOa := Lib.hid hoa
            have HBX := Lib.hid (hF.out.heap HBV.out (fun f => f))
            have HFX := Lib.hid (HFV.out.trans' hF.out)
            clear hoa hO hF HBV HFV HOl z0
            obtain ⟨j0, hj0, jz0, jz1, jz2⟩ := info_parts (show (Try.prog.info? 41).map (fun i => (i.zero, i.size, i.bytes)) = some (some (.agg #[.int .i64 0, .int .i64 0, .int .i64 0, .slice none 0 0, .string ByteArray.empty, .string ByteArray.empty]), 6, 80) by kernel_rfl)
            have hone0 : ∀ u ∈ drCells late, u.oneCell' = true := drCells_one (fun d h => Hd.out d (by simp [h]))
            have hone1 : ∀ u ∈ drCells l, u.oneCell' = true := drCells_one (fun d h => Hd.out d (by simp [h]))
            have Hone0 := Lib.hid hone0
            have Hone1 := Lib.hid hone1
            have hE := Lib.hid (ow_empty X 41 6)
            have t3' := hE.out.fr.cell z3 (fun f => f)
            clear hone0 hone1
            go_wp2_with (at_builtin; refine wpList_append_all (X.alloc (.cells #[] 41)) rfl _ _ 24 rfl 41 j0 _ 6 80 Try.underlying24 hj0 jz0 jz1 jz2 rfl (by decide) _ _ _ rfl hE.out.sl _ _ _ rfl (H0.out.fr (HFX.out.trans' hE.out.fr) (fun _ _ _ f => f)) Hone0.out (by unfold maxLen; omega) (by omega) ?_)
            intro ao6 cap6 w6 hs6 hf6 ho6 _
            have HO6 := Lib.hid (hE.out.app hs6 hf6 (by simpa using ho6))
            clear hs6 hf6 ho6 hE t3'
            go_wp2_with (at_builtin; refine wpList_append_all w6 rfl _ _ 24 rfl 41 j0 _ 6 80 Try.underlying24 hj0 jz0 jz1 jz2 rfl (by decide) _ _ _ rfl HO6.out.sl _ _ _ rfl (H1.out.fr (HFX.out.trans' HO6.out.fr) (fun _ _ _ f => f)) Hone1.out (by unfold maxLen; omega) (by omega) ?_)
            intro ao7 cap7 w7 hs7 hf7 ho7 _
            rw [← drCells_append] at hs7
            have HO7 := Lib.hid (HO6.out.app hs7 hf7 ho7)
            have HF7 := Lib.hid (HFX.out.trans' HO7.out.fr)
            have HB7 := Lib.hid (HO7.out.fr.heap HBX.out (fun f => f))
            obtain ⟨all, hall⟩ : ∃ all, late ++ l = all := ⟨_, rfl⟩
            have hlen : all.length = n0 + n1 := by rw [← hall, List.length_append, Hn0.out, Hn1.out]
            have HRd : Hid (Rd w7 6 (.slice ao7 (n0 + n1) cap7) (n0 + n1) (drCells all)) := by rw [← hall]; exact Lib.hid HO7.out.rd
            have Hlen := Lib.hid hlen
            have Hall := Lib.hid hall
            clear hs7 hf7 ho7 HO6 HO7 hj0 jz0 jz1 jz2 hlen hall HBX HFX Hone0 Hone1
            have hN80 : n0 + n1 ≤ 80 := by omega
            generalize hNN : n0 + n1 = NN at *
            have HNN := Lib.hid hNN
            clear hNN
            go_wp2_with fail
            go_loopw [8] (fun iv wr => ∃ i : Nat, i ≤ NN ∧ iv = .int .i64 i ∧ Hid (∀ (a b : Nat) (x y : Dr), b < a → a < i → all[a]? = some x → all[b]? = some y → PairTold x y) ∧ Hid (Fr no w7 wr)) (fun iv _ => NN - (intOf iv).toNat)
            case atStart => exact ⟨0, Nat.zero_le _, rfl, Lib.hid (fun a b x y h1 h2 => by omega), Lib.hid (Fr.refl _ _)⟩
            case round =>
              obtain ⟨i, hi, rfl, hT, hF⟩ := hrel
              generalize wr = Y at *
              by_cases hlt : i < NN
              · obtain ⟨x, hx⟩ : ∃ x, all[i]? = some x := ⟨all[i]'(by rw [Hlen.out]; exact hlt), by simp⟩
                have HX := Lib.hid hx
                clear hx
                go_wp2_with fail
                go_loopw [9] (fun kv wr => ∃ k : Nat, k ≤ i ∧ kv = .int .i64 k ∧ Hid (∀ (b : Nat) (y : Dr), b < k → all[b]? = some y → PairTold x y) ∧ Hid (Fr no Y wr)) (fun kv _ => i - (intOf kv).toNat)
                case atStart => exact ⟨0, Nat.zero_le _, rfl, Lib.hid (fun b y h => by omega), Lib.hid (Fr.refl _ _)⟩
                case round =>
                  obtain ⟨k, hk, rfl, hO, hG⟩ := hrel
                  generalize wr = Z at *
                  by_cases hkt : k < i
                  · obtain ⟨y, hy⟩ : ∃ y, all[k]? = some y := ⟨all[k]'(by rw [Hlen.out]; omega), by simp⟩
                    have hall : Rd Z 6 (.slice ao7 NN cap7) all.length (drCells all) := by rw [Hlen.out]; exact HRd.out.fr (hF.out.trans' hG.out) (fun _ _ _ f => f)
                    obtain ⟨g, off, c', he, e0, e1, e2, e3, e4, e5⟩ := drs_cells hall HX.out
                    rw [Hlen.out] at he
                    cases he
                    obtain ⟨g2, off2, c2', he2, f0, f1, f2, f3, f4, f5⟩ := drs_cells hall hy
                    rw [Hlen.out] at he2
                    cases he2
                    have hxo := Rd.fr (Hd.out x (by rw [Hall.out]; exact List.mem_of_getElem? HX.out)) ((HF7.out.trans' hF.out).trans' hG.out) (fun _ _ _ f => f)
                    have hyo := Rd.fr (Hd.out y (by rw [Hall.out]; exact List.mem_of_getElem? hy)) ((HF7.out.trans' hF.out).trans' hG.out) (fun _ _ _ f => f)
                    have hnext : PairTold x y → Hid (∀ (b : Nat) (y : Dr), b < k + 1 → all[b]? = some y → PairTold x y) := fun h => Lib.hid (fun b y' h1 h2 => by
                      by_cases e : b = k
                      · subst e
                        rw [hy] at h2
                        cases h2
                        exact h
                      · exact hO.out b y' (by omega) h2)
                    clear hO hy hall e0 f0
                    obtain ⟨mt, ms, mq, mv, mdep, mk, mx⟩ := x
                    obtain ⟨pt, ps, pq, pv, pdep, pk, px⟩ := y
                    obtain ⟨mO, mc, hud, _, _⟩ := Rd.cap hxo
                    obtain ⟨pO, pc, hvd, _, _⟩ := Rd.cap hyo
                    dsimp only at *
                    subst hud hvd
                    have hkN : k < NN := by omega
                    have Hsr := Lib.hid (fun (w' : World) (hf : Fr no Z w') => lSameRec mt ms mq _ mdep mk mx pt ps pq _ pdep pk px w' (Rd.fr hxo hf (fun _ _ _ f => f)) (Rd.fr hyo hf (fun _ _ _ f => f)))
                    have Hnext := Lib.hid hnext
                    clear hxo hyo hnext
                    go_upto_region 22 with (fail)
                    go_cut [10, 11] (fun av bv wx => ∃ gx gy, av = .pointer (some ⟨gx, 0, none⟩) ∧ bv = .pointer (some ⟨gy, 0, none⟩) ∧ Hid (wx.heap[gx]? = some (.cells #[.int .i64 ms, .int .i64 mq, .slice mO mdep.length mc, .string mk, .string mx] 39 (0, 0))) ∧ Hid (wx.heap[gy]? = some (.cells #[.int .i64 ps, .int .i64 pq, .slice pO pdep.length pc, .string pk, .string px] 39 (0, 0))) ∧ Hid (Fr no Z wx))
                    case first =>
                      obtain ⟨Sg250_0, HSg250_0⟩ : ∃ S : World → Prop, Hid (S = (fun w' => w'.cell? ⟨g, off + i * 6 + 1, none⟩ = some (.int .i64 ms) ∧ w'.cell? ⟨g, off + i * 6 + 2, none⟩ = some (.int .i64 mq) ∧ w'.cell? ⟨g, off + i * 6 + 3, none⟩ = some (.slice mO mdep.length mc) ∧ w'.cell? ⟨g, off + i * 6 + 4, none⟩ = some (.string mk) ∧ w'.cell? ⟨g, off + i * 6 + 5, none⟩ = some (.string mx) ∧ w'.cell? ⟨g, off + k * 6 + 1, none⟩ = some (.int .i64 ps) ∧ w'.cell? ⟨g, off + k * 6 + 2, none⟩ = some (.int .i64 pq) ∧ w'.cell? ⟨g, off + k * 6 + 3, none⟩ = some (.slice pO pdep.length pc) ∧ w'.cell? ⟨g, off + k * 6 + 4, none⟩ = some (.string pk) ∧ w'.cell? ⟨g, off + k * 6 + 5, none⟩ = some (.string px))) := ⟨_, Lib.hid rfl⟩
                      refine wp_heldp [] (pickS [Sg250_0]) (by kernel_rfl) ?_ (fun hHeld => ?_)
                      · show Sg250_0 _; rw [HSg250_0.out]; exact ⟨e1, e2, e3, e4, e5, f1, f2, f3, f4, f5⟩
                      obtain ⟨wc, hwc⟩ : ∃ x, Z.drew = x := ⟨_, rfl⟩; rw [hwc] at hHeld; rw [hwc]; have HF : Hid (Fr no Z wc) := (by rw [← hwc]; exact Lib.hid ((Fr.refl no Z).drewN 1)); clear hwc
                      refine heldp_take (v := ?_) 0 0 rfl (by kernel_rfl) (.inl ⟨by rfl, ?_⟩) hHeld ?_
                      rotate_left
                      · intro w hSw; replace hSw : Sg250_0 w := hSw; rw [HSg250_0.out] at hSw; (try dsimp only at hSw); first | (go_simp; done) | (go_simp; with_reducible rfl)
                      try simp only [Act.put, List.setIfInBounds_toArray, List.set_cons_zero, List.set_cons_succ]
                      refine heldp_take (v := ?_) 1 0 rfl (by kernel_rfl) (.inl ⟨by rfl, ?_⟩) hHeld ?_
                      rotate_left
                      · intro w hSw; replace hSw : Sg250_0 w := hSw; rw [HSg250_0.out] at hSw; (try dsimp only at hSw); first | (go_simp; done) | (go_simp; with_reducible rfl)
                      try simp only [Act.put, List.setIfInBounds_toArray, List.set_cons_zero, List.set_cons_succ]
                      refine heldp_take (v := ?_) 2 0 rfl (by kernel_rfl) (.inl ⟨by rfl, ?_⟩) hHeld ?_
                      rotate_left
                      · intro w hSw; replace hSw : Sg250_0 w := hSw; rw [HSg250_0.out] at hSw; (try dsimp only at hSw); first | (go_simp; done) | (go_simp; with_reducible rfl)
                      try simp only [Act.put, List.setIfInBounds_toArray, List.set_cons_zero, List.set_cons_succ]
                      refine heldp_take (v := ?_) 3 0 rfl (by kernel_rfl) (.inl ⟨by rfl, ?_⟩) hHeld ?_
                      rotate_left
                      · intro w hSw; replace hSw : Sg250_0 w := hSw; rw [HSg250_0.out] at hSw; (try dsimp only at hSw); first | (go_simp; done) | (go_simp; with_reducible rfl)
                      try simp only [Act.put, List.setIfInBounds_toArray, List.set_cons_zero, List.set_cons_succ]
                      refine heldp_take (v := ?_) 4 0 rfl (by kernel_rfl) (.inl ⟨by rfl, ?_⟩) hHeld ?_
                      rotate_left
                      · intro w hSw; replace hSw : Sg250_0 w := hSw; rw [HSg250_0.out] at hSw; (try dsimp only at hSw); first | (go_simp; done) | (go_simp; with_reducible rfl)
                      try simp only [Act.put, List.setIfInBounds_toArray, List.set_cons_zero, List.set_cons_succ]
                      refine heldp_take (v := ?_) 5 0 rfl (by kernel_rfl) (.inl ⟨by rfl, ?_⟩) hHeld ?_
                      rotate_left
                      · intro w hSw; replace hSw : Sg250_0 w := hSw; rw [HSg250_0.out] at hSw; (try dsimp only at hSw); first | (go_simp; done) | (go_simp; with_reducible rfl)
                      try simp only [Act.put, List.setIfInBounds_toArray, List.set_cons_zero, List.set_cons_succ]
                      refine heldp_take (v := ?_) 6 0 rfl (by kernel_rfl) (.inl ⟨by rfl, ?_⟩) hHeld ?_
                      rotate_left
                      · intro w hSw; replace hSw : Sg250_0 w := hSw; rw [HSg250_0.out] at hSw; (try dsimp only at hSw); first | (go_simp; done) | (go_simp; with_reducible rfl)
                      try simp only [Act.put, List.setIfInBounds_toArray, List.set_cons_zero, List.set_cons_succ]
                      refine heldp_take (v := ?_) 7 0 rfl (by kernel_rfl) (.inl ⟨by rfl, ?_⟩) hHeld ?_
                      rotate_left
                      · intro w hSw; replace hSw : Sg250_0 w := hSw; rw [HSg250_0.out] at hSw; (try dsimp only at hSw); first | (go_simp; done) | (go_simp; with_reducible rfl)
                      try simp only [Act.put, List.setIfInBounds_toArray, List.set_cons_zero, List.set_cons_succ]
                      refine heldp_take (v := ?_) 8 0 rfl (by kernel_rfl) (.inl ⟨by rfl, ?_⟩) hHeld ?_
                      rotate_left
                      · intro w hSw; replace hSw : Sg250_0 w := hSw; rw [HSg250_0.out] at hSw; (try dsimp only at hSw); first | (go_simp; done) | (go_simp; with_reducible rfl)
                      try simp only [Act.put, List.setIfInBounds_toArray, List.set_cons_zero, List.set_cons_succ]
                      refine heldp_take (v := ?_) 9 0 rfl (by kernel_rfl) (.inl ⟨by rfl, ?_⟩) hHeld ?_
                      rotate_left
                      · intro w hSw; replace hSw : Sg250_0 w := hSw; rw [HSg250_0.out] at hSw; (try dsimp only at hSw); first | (go_simp; done) | (go_simp; with_reducible rfl)
                      try simp only [Act.put, List.setIfInBounds_toArray, List.set_cons_zero, List.set_cons_succ]
                      refine heldp_two 10 11 (by kernel_rfl) ?_ ?_
                      · refine heldp_op 10 0 rfl (by kernel_rfl) (fun K hK => ?_)
                        go_simp
                        have hfa : Fr no wc (wc.alloc (.cells #[.int .i64 0, .int .i64 0, .slice none 0 0, .string ⟨#[]⟩, .string ⟨#[]⟩] 39)) := (Fr.refl no wc).alloc _
                        have hba := World.alloc_heap_new wc (.cells #[.int .i64 0, .int .i64 0, .slice none 0 0, .string ⟨#[]⟩, .string ⟨#[]⟩] 39)
                        obtain ⟨gx, hgg⟩ : ∃ x, wc.heap.size = x := ⟨_, rfl⟩
                        have hgwx : Z.heap.size ≤ gx := by rw [← hgg]; exact HF.out.size
                        try have hne : gy < gx := by rw [← hgg]; exact (Array.getElem?_eq_some_iff.1 By.out).1
                        obtain ⟨wc, hwc⟩ : ∃ x, wc.alloc (.cells #[.int .i64 0, .int .i64 0, .slice none 0 0, .string ⟨#[]⟩, .string ⟨#[]⟩] 39) = x := ⟨_, rfl⟩
                        rw [hgg, hwc]
                        rw [hgg, hwc] at hba
                        rw [hwc] at hfa
                        replace HF := Lib.hid (HF.out.trans' hfa)
                        try replace By := Lib.hid (hfa.heap By.out (fun f => f))
                        have Bx := Lib.hid hba
                        clear hba hfa hwc hgg
                        refine hK.out _ _ ?_ (fun hHeld' => ?_)
                        · show Sg250_0 _; rw [HSg250_0.out]; have hq := HF.out; exact ⟨hq.cell e1 (fun f => f), hq.cell e2 (fun f => f), hq.cell e3 (fun f => f), hq.cell e4 (fun f => f), hq.cell e5 (fun f => f), hq.cell f1 (fun f => f), hq.cell f2 (fun f => f), hq.cell f3 (fun f => f), hq.cell f4 (fun f => f), hq.cell f5 (fun f => f)⟩
                        clear hK K hHeld
                        have hHeld := hHeld'
                        clear hHeld'
                        try simp only [Act.put, List.setIfInBounds_toArray, List.set_cons_zero, List.set_cons_succ]
                        refine heldp_call 11 0 rfl (by kernel_rfl) (fun K hK => ?_)
                        go_simp
                        have hfa : Fr no wc (wc.alloc (.cells #[.int .i64 0, .int .i64 0, .slice none 0 0, .string ⟨#[]⟩, .string ⟨#[]⟩] 39)) := (Fr.refl no wc).alloc _
                        have hba := World.alloc_heap_new wc (.cells #[.int .i64 0, .int .i64 0, .slice none 0 0, .string ⟨#[]⟩, .string ⟨#[]⟩] 39)
                        obtain ⟨gy, hgg⟩ : ∃ x, wc.heap.size = x := ⟨_, rfl⟩
                        have hgwy : Z.heap.size ≤ gy := by rw [← hgg]; exact HF.out.size
                        try have hne : gx < gy := by rw [← hgg]; exact (Array.getElem?_eq_some_iff.1 Bx.out).1
                        obtain ⟨wc, hwc⟩ : ∃ x, wc.alloc (.cells #[.int .i64 0, .int .i64 0, .slice none 0 0, .string ⟨#[]⟩, .string ⟨#[]⟩] 39) = x := ⟨_, rfl⟩
                        rw [hgg, hwc]
                        rw [hgg, hwc] at hba
                        rw [hwc] at hfa
                        replace HF := Lib.hid (HF.out.trans' hfa)
                        try replace Bx := Lib.hid (hfa.heap Bx.out (fun f => f))
                        have By := Lib.hid hba
                        clear hba hfa hwc hgg
                        refine hK.out _ _ ?_ (fun hHeld' => ?_)
                        · show Sg250_0 _; rw [HSg250_0.out]; have hq := HF.out; exact ⟨hq.cell e1 (fun f => f), hq.cell e2 (fun f => f), hq.cell e3 (fun f => f), hq.cell e4 (fun f => f), hq.cell e5 (fun f => f), hq.cell f1 (fun f => f), hq.cell f2 (fun f => f), hq.cell f3 (fun f => f), hq.cell f4 (fun f => f), hq.cell f5 (fun f => f)⟩
                        clear hK K hHeld
                        have hHeld := hHeld'
                        clear hHeld'
                        try simp only [Act.put, List.setIfInBounds_toArray, List.set_cons_zero, List.set_cons_succ]
                        refine heldp_call 12 0 rfl (by kernel_rfl) (fun K hK => ?_)
                        rw [if_pos (by rfl)]
                        obtain ⟨x1, x2, x3, x4, x5, q1, q2, q3, q4, q5, c1, c2, c3, c4, c5, z1, z2, z3, z4, z5, hb5, hf5⟩ := set5 Bx.out (.int .i64 ms) (.int .i64 mq) (.slice mO mdep.length mc) (.string mk) (.string mx)
                        have hby := hf5.heap By.out (by omega)
                        replace By := Lib.hid hby
                        replace Bx := Lib.hid hb5
                        replace HF := Lib.hid (HF.out.trans hf5 (fun i hi e => by omega))
                        go_simp
                        clear hb5 hf5 hby q1 q2 q3 q4 q5 c1 c2 c3 c4 c5 z1 z2 z3 z4 z5
                        refine hK.out _ _ ?_ (fun hHeld' => ?_)
                        · show Sg250_0 _; rw [HSg250_0.out]; have hq := HF.out; exact ⟨hq.cell e1 (fun f => f), hq.cell e2 (fun f => f), hq.cell e3 (fun f => f), hq.cell e4 (fun f => f), hq.cell e5 (fun f => f), hq.cell f1 (fun f => f), hq.cell f2 (fun f => f), hq.cell f3 (fun f => f), hq.cell f4 (fun f => f), hq.cell f5 (fun f => f)⟩
                        clear hK K hHeld
                        have hHeld := hHeld'
                        clear hHeld'
                        try simp only [Act.put, List.setIfInBounds_toArray, List.set_cons_zero, List.set_cons_succ]
                        refine heldp_call 13 0 rfl (by kernel_rfl) (fun K hK => ?_)
                        rw [if_pos (by rfl)]
                        obtain ⟨x1, x2, x3, x4, x5, q1, q2, q3, q4, q5, c1, c2, c3, c4, c5, z1, z2, z3, z4, z5, hb5, hf5⟩ := set5 By.out (.int .i64 ps) (.int .i64 pq) (.slice pO pdep.length pc) (.string pk) (.string px)
                        have hby := hf5.heap Bx.out (by omega)
                        replace Bx := Lib.hid hby
                        replace By := Lib.hid hb5
                        replace HF := Lib.hid (HF.out.trans hf5 (fun i hi e => by omega))
                        go_simp
                        clear hb5 hf5 hby q1 q2 q3 q4 q5 c1 c2 c3 c4 c5 z1 z2 z3 z4 z5
                        refine hK.out _ _ ?_ (fun hHeld' => ?_)
                        · show Sg250_0 _; rw [HSg250_0.out]; have hq := HF.out; exact ⟨hq.cell e1 (fun f => f), hq.cell e2 (fun f => f), hq.cell e3 (fun f => f), hq.cell e4 (fun f => f), hq.cell e5 (fun f => f), hq.cell f1 (fun f => f), hq.cell f2 (fun f => f), hq.cell f3 (fun f => f), hq.cell f4 (fun f => f), hq.cell f5 (fun f => f)⟩
                        clear hK K hHeld
                        have hHeld := hHeld'
                        clear hHeld'
                        try simp only [Act.put, List.setIfInBounds_toArray, List.set_cons_zero, List.set_cons_succ]
                        refine heldp_done (by kernel_rfl) ?_
                        try clear hHeld
                        clear HSg250_0
                        try clear Sg250_0
                        go_wp2
                        go_meet
                        exact ⟨gx, gy, rfl, rfl, Bx, By, HF⟩
                      · refine heldp_op 11 0 rfl (by kernel_rfl) (fun K hK => ?_)
                        go_simp
                        have hfa : Fr no wc (wc.alloc (.cells #[.int .i64 0, .int .i64 0, .slice none 0 0, .string ⟨#[]⟩, .string ⟨#[]⟩] 39)) := (Fr.refl no wc).alloc _
                        have hba := World.alloc_heap_new wc (.cells #[.int .i64 0, .int .i64 0, .slice none 0 0, .string ⟨#[]⟩, .string ⟨#[]⟩] 39)
                        obtain ⟨gy, hgg⟩ : ∃ x, wc.heap.size = x := ⟨_, rfl⟩
                        have hgwy : Z.heap.size ≤ gy := by rw [← hgg]; exact HF.out.size
                        try have hne : gx < gy := by rw [← hgg]; exact (Array.getElem?_eq_some_iff.1 Bx.out).1
                        obtain ⟨wc, hwc⟩ : ∃ x, wc.alloc (.cells #[.int .i64 0, .int .i64 0, .slice none 0 0, .string ⟨#[]⟩, .string ⟨#[]⟩] 39) = x := ⟨_, rfl⟩
                        rw [hgg, hwc]
                        rw [hgg, hwc] at hba
                        rw [hwc] at hfa
                        replace HF := Lib.hid (HF.out.trans' hfa)
                        try replace Bx := Lib.hid (hfa.heap Bx.out (fun f => f))
                        have By := Lib.hid hba
                        clear hba hfa hwc hgg
                        refine hK.out _ _ ?_ (fun hHeld' => ?_)
                        · show Sg250_0 _; rw [HSg250_0.out]; have hq := HF.out; exact ⟨hq.cell e1 (fun f => f), hq.cell e2 (fun f => f), hq.cell e3 (fun f => f), hq.cell e4 (fun f => f), hq.cell e5 (fun f => f), hq.cell f1 (fun f => f), hq.cell f2 (fun f => f), hq.cell f3 (fun f => f), hq.cell f4 (fun f => f), hq.cell f5 (fun f => f)⟩
                        clear hK K hHeld
                        have hHeld := hHeld'
                        clear hHeld'
                        try simp only [Act.put, List.setIfInBounds_toArray, List.set_cons_zero, List.set_cons_succ]
                        refine heldp_call 10 0 rfl (by kernel_rfl) (fun K hK => ?_)
                        go_simp
                        have hfa : Fr no wc (wc.alloc (.cells #[.int .i64 0, .int .i64 0, .slice none 0 0, .string ⟨#[]⟩, .string ⟨#[]⟩] 39)) := (Fr.refl no wc).alloc _
                        have hba := World.alloc_heap_new wc (.cells #[.int .i64 0, .int .i64 0, .slice none 0 0, .string ⟨#[]⟩, .string ⟨#[]⟩] 39)
                        obtain ⟨gx, hgg⟩ : ∃ x, wc.heap.size = x := ⟨_, rfl⟩
                        have hgwx : Z.heap.size ≤ gx := by rw [← hgg]; exact HF.out.size
                        try have hne : gy < gx := by rw [← hgg]; exact (Array.getElem?_eq_some_iff.1 By.out).1
                        obtain ⟨wc, hwc⟩ : ∃ x, wc.alloc (.cells #[.int .i64 0, .int .i64 0, .slice none 0 0, .string ⟨#[]⟩, .string ⟨#[]⟩] 39) = x := ⟨_, rfl⟩
                        rw [hgg, hwc]
                        rw [hgg, hwc] at hba
                        rw [hwc] at hfa
                        replace HF := Lib.hid (HF.out.trans' hfa)
                        try replace By := Lib.hid (hfa.heap By.out (fun f => f))
                        have Bx := Lib.hid hba
                        clear hba hfa hwc hgg
                        refine hK.out _ _ ?_ (fun hHeld' => ?_)
                        · show Sg250_0 _; rw [HSg250_0.out]; have hq := HF.out; exact ⟨hq.cell e1 (fun f => f), hq.cell e2 (fun f => f), hq.cell e3 (fun f => f), hq.cell e4 (fun f => f), hq.cell e5 (fun f => f), hq.cell f1 (fun f => f), hq.cell f2 (fun f => f), hq.cell f3 (fun f => f), hq.cell f4 (fun f => f), hq.cell f5 (fun f => f)⟩
                        clear hK K hHeld
                        have hHeld := hHeld'
                        clear hHeld'
                        try simp only [Act.put, List.setIfInBounds_toArray, List.set_cons_zero, List.set_cons_succ]
                        refine heldp_call 12 0 rfl (by kernel_rfl) (fun K hK => ?_)
                        rw [if_pos (by rfl)]
                        obtain ⟨x1, x2, x3, x4, x5, q1, q2, q3, q4, q5, c1, c2, c3, c4, c5, z1, z2, z3, z4, z5, hb5, hf5⟩ := set5 Bx.out (.int .i64 ms) (.int .i64 mq) (.slice mO mdep.length mc) (.string mk) (.string mx)
                        have hby := hf5.heap By.out (by omega)
                        replace By := Lib.hid hby
                        replace Bx := Lib.hid hb5
                        replace HF := Lib.hid (HF.out.trans hf5 (fun i hi e => by omega))
                        go_simp
                        clear hb5 hf5 hby q1 q2 q3 q4 q5 c1 c2 c3 c4 c5 z1 z2 z3 z4 z5
                        refine hK.out _ _ ?_ (fun hHeld' => ?_)
                        · show Sg250_0 _; rw [HSg250_0.out]; have hq := HF.out; exact ⟨hq.cell e1 (fun f => f), hq.cell e2 (fun f => f), hq.cell e3 (fun f => f), hq.cell e4 (fun f => f), hq.cell e5 (fun f => f), hq.cell f1 (fun f => f), hq.cell f2 (fun f => f), hq.cell f3 (fun f => f), hq.cell f4 (fun f => f), hq.cell f5 (fun f => f)⟩
                        clear hK K hHeld
                        have hHeld := hHeld'
                        clear hHeld'
                        try simp only [Act.put, List.setIfInBounds_toArray, List.set_cons_zero, List.set_cons_succ]
                        refine heldp_call 13 0 rfl (by kernel_rfl) (fun K hK => ?_)
                        rw [if_pos (by rfl)]
                        obtain ⟨x1, x2, x3, x4, x5, q1, q2, q3, q4, q5, c1, c2, c3, c4, c5, z1, z2, z3, z4, z5, hb5, hf5⟩ := set5 By.out (.int .i64 ps) (.int .i64 pq) (.slice pO pdep.length pc) (.string pk) (.string px)
                        have hby := hf5.heap Bx.out (by omega)
                        replace Bx := Lib.hid hby
                        replace By := Lib.hid hb5
                        replace HF := Lib.hid (HF.out.trans hf5 (fun i hi e => by omega))
                        go_simp
                        clear hb5 hf5 hby q1 q2 q3 q4 q5 c1 c2 c3 c4 c5 z1 z2 z3 z4 z5
                        refine hK.out _ _ ?_ (fun hHeld' => ?_)
                        · show Sg250_0 _; rw [HSg250_0.out]; have hq := HF.out; exact ⟨hq.cell e1 (fun f => f), hq.cell e2 (fun f => f), hq.cell e3 (fun f => f), hq.cell e4 (fun f => f), hq.cell e5 (fun f => f), hq.cell f1 (fun f => f), hq.cell f2 (fun f => f), hq.cell f3 (fun f => f), hq.cell f4 (fun f => f), hq.cell f5 (fun f => f)⟩
                        clear hK K hHeld
                        have hHeld := hHeld'
                        clear hHeld'
                        try simp only [Act.put, List.setIfInBounds_toArray, List.set_cons_zero, List.set_cons_succ]
                        refine heldp_done (by kernel_rfl) ?_
                        try clear hHeld
                        clear HSg250_0
                        try clear Sg250_0
                        go_wp2
                        go_meet
                        exact ⟨gx, gy, rfl, rfl, Bx, By, HF⟩
                    case rest =>
                      obtain ⟨gx, gy, rfl, rfl, Bx, By, HF⟩ := hcut
                      clear e1 e2 e3 e4 e5 f1 f2 f3 f4 f5
                      generalize wc = V at *
                      have i0 := cell_of_block (j := 0) Bx.out rfl
                      have i1 := cell_of_block (j := 1) Bx.out rfl
                      have i2 := cell_of_block (j := 2) Bx.out rfl
                      have i3 := cell_of_block (j := 3) Bx.out rfl
                      have i4 := cell_of_block (j := 4) Bx.out rfl
                      have j0 := cell_of_block (j := 0) By.out rfl
                      have j1 := cell_of_block (j := 1) By.out rfl
                      have j2 := cell_of_block (j := 2) By.out rfl
                      have j3 := cell_of_block (j := 3) By.out rfl
                      have j4 := cell_of_block (j := 4) By.out rfl
                      by_cases hs : ms = ps
                      · subst hs
                        by_cases hq : mq = pq
                        · subst hq
                          obtain ⟨b, hb⟩ : ∃ b, sameR ⟨mt, ms, mq, .slice mO mdep.length mc, mdep, mk, mx⟩ ⟨pt, ms, mq, .slice pO pdep.length pc, pdep, pk, px⟩ = b := ⟨_, rfl⟩
                          rw [hb] at Hsr
                          cases b
                          · clear Hnext hb
                            go_upto_region 23 with (fail)
                            obtain ⟨Sg476_0, HSg476_0⟩ : ∃ S : World → Prop, Hid (S = (fun w' => w'.cell? ⟨gx, 0, none⟩ = some (.int .i64 ms) ∧ w'.cell? ⟨gx, 1, none⟩ = some (.int .i64 mq) ∧ w'.cell? ⟨gx, 2, none⟩ = some (.slice mO mdep.length mc) ∧ w'.cell? ⟨gx, 3, none⟩ = some (.string mk) ∧ w'.cell? ⟨gx, 4, none⟩ = some (.string mx) ∧ w'.cell? ⟨gy, 0, none⟩ = some (.int .i64 ms) ∧ w'.cell? ⟨gy, 1, none⟩ = some (.int .i64 mq) ∧ w'.cell? ⟨gy, 2, none⟩ = some (.slice pO pdep.length pc) ∧ w'.cell? ⟨gy, 3, none⟩ = some (.string pk) ∧ w'.cell? ⟨gy, 4, none⟩ = some (.string px))) := ⟨_, Lib.hid rfl⟩
                            refine wp_heldp [] (pickS [Sg476_0]) (by kernel_rfl) ?_ (fun hHeld => ?_)
                            · show Sg476_0 _; rw [HSg476_0.out]; exact ⟨i0, i1, i2, i3, i4, j0, j1, j2, j3, j4⟩
                            obtain ⟨wc, hwc⟩ : ∃ x, V.drew = x := ⟨_, rfl⟩; rw [hwc] at hHeld; rw [hwc]; have HG : Hid (Fr no V wc) := (by rw [← hwc]; exact Lib.hid ((Fr.refl no V).drewN 1)); clear hwc
                            refine heldp_take (v := ?_) 0 0 rfl (by kernel_rfl) (.inl ⟨by rfl, ?_⟩) hHeld ?_
                            rotate_left
                            · intro w hSw; replace hSw : Sg476_0 w := hSw; rw [HSg476_0.out] at hSw; (try dsimp only at hSw); first | (go_simp; done) | (go_simp; with_reducible rfl)
                            try simp only [Act.put, List.setIfInBounds_toArray, List.set_cons_zero, List.set_cons_succ]
                            refine heldp_take (v := ?_) 1 0 rfl (by kernel_rfl) (.inl ⟨by rfl, ?_⟩) hHeld ?_
                            rotate_left
                            · intro w hSw; replace hSw : Sg476_0 w := hSw; rw [HSg476_0.out] at hSw; (try dsimp only at hSw); first | (go_simp; done) | (go_simp; with_reducible rfl)
                            try simp only [Act.put, List.setIfInBounds_toArray, List.set_cons_zero, List.set_cons_succ]
                            refine heldp_take (v := ?_) 2 0 rfl (by kernel_rfl) (.inl ⟨by rfl, ?_⟩) hHeld ?_
                            rotate_left
                            · intro w hSw; replace hSw : Sg476_0 w := hSw; rw [HSg476_0.out] at hSw; (try dsimp only at hSw); first | (go_simp; done) | (go_simp; with_reducible rfl)
                            try simp only [Act.put, List.setIfInBounds_toArray, List.set_cons_zero, List.set_cons_succ]
                            refine heldp_take (v := ?_) 3 0 rfl (by kernel_rfl) (.inl ⟨by rfl, ?_⟩) hHeld ?_
                            rotate_left
                            · intro w hSw; replace hSw : Sg476_0 w := hSw; rw [HSg476_0.out] at hSw; (try dsimp only at hSw); first | (go_simp; done) | (go_simp; with_reducible rfl)
                            try simp only [Act.put, List.setIfInBounds_toArray, List.set_cons_zero, List.set_cons_succ]
                            refine heldp_take (v := ?_) 4 0 rfl (by kernel_rfl) (.inl ⟨by rfl, ?_⟩) hHeld ?_
                            rotate_left
                            · intro w hSw; replace hSw : Sg476_0 w := hSw; rw [HSg476_0.out] at hSw; (try dsimp only at hSw); first | (go_simp; done) | (go_simp; with_reducible rfl)
                            try simp only [Act.put, List.setIfInBounds_toArray, List.set_cons_zero, List.set_cons_succ]
                            refine heldp_take (v := ?_) 5 0 rfl (by kernel_rfl) (.inl ⟨by rfl, ?_⟩) hHeld ?_
                            rotate_left
                            · intro w hSw; replace hSw : Sg476_0 w := hSw; rw [HSg476_0.out] at hSw; (try dsimp only at hSw); first | (go_simp; done) | (go_simp; with_reducible rfl)
                            try simp only [Act.put, List.setIfInBounds_toArray, List.set_cons_zero, List.set_cons_succ]
                            refine heldp_take (v := ?_) 6 0 rfl (by kernel_rfl) (.inl ⟨by rfl, ?_⟩) hHeld ?_
                            rotate_left
                            · intro w hSw; replace hSw : Sg476_0 w := hSw; rw [HSg476_0.out] at hSw; (try dsimp only at hSw); first | (go_simp; done) | (go_simp; with_reducible rfl)
                            try simp only [Act.put, List.setIfInBounds_toArray, List.set_cons_zero, List.set_cons_succ]
                            refine heldp_take (v := ?_) 7 0 rfl (by kernel_rfl) (.inl ⟨by rfl, ?_⟩) hHeld ?_
                            rotate_left
                            · intro w hSw; replace hSw : Sg476_0 w := hSw; rw [HSg476_0.out] at hSw; (try dsimp only at hSw); first | (go_simp; done) | (go_simp; with_reducible rfl)
                            try simp only [Act.put, List.setIfInBounds_toArray, List.set_cons_zero, List.set_cons_succ]
                            refine heldp_take (v := ?_) 8 0 rfl (by kernel_rfl) (.inl ⟨by rfl, ?_⟩) hHeld ?_
                            rotate_left
                            · intro w hSw; replace hSw : Sg476_0 w := hSw; rw [HSg476_0.out] at hSw; (try dsimp only at hSw); first | (go_simp; done) | (go_simp; with_reducible rfl)
                            try simp only [Act.put, List.setIfInBounds_toArray, List.set_cons_zero, List.set_cons_succ]
                            refine heldp_take (v := ?_) 9 0 rfl (by kernel_rfl) (.inl ⟨by rfl, ?_⟩) hHeld ?_
                            rotate_left
                            · intro w hSw; replace hSw : Sg476_0 w := hSw; rw [HSg476_0.out] at hSw; (try dsimp only at hSw); first | (go_simp; done) | (go_simp; with_reducible rfl)
                            try simp only [Act.put, List.setIfInBounds_toArray, List.set_cons_zero, List.set_cons_succ]
                            refine heldp_take (v := ?_) 10 0 rfl (by kernel_rfl) (.inl ⟨by rfl, ?_⟩) hHeld ?_
                            rotate_left
                            · intro w hSw; replace hSw : Sg476_0 w := hSw; rw [HSg476_0.out] at hSw; (try dsimp only at hSw); first | (go_simp; done) | (go_simp; with_reducible rfl)
                            try simp only [Act.put, List.setIfInBounds_toArray, List.set_cons_zero, List.set_cons_succ]
                            refine heldp_take (v := ?_) 11 0 rfl (by kernel_rfl) (.inl ⟨by rfl, ?_⟩) hHeld ?_
                            rotate_left
                            · intro w hSw; replace hSw : Sg476_0 w := hSw; rw [HSg476_0.out] at hSw; (try dsimp only at hSw); first | (go_simp; done) | (go_simp; with_reducible rfl)
                            try simp only [Act.put, List.setIfInBounds_toArray, List.set_cons_zero, List.set_cons_succ]
                            refine heldp_take (v := ?_) 12 0 rfl (by kernel_rfl) (.inl ⟨by rfl, ?_⟩) hHeld ?_
                            rotate_left
                            · intro w hSw; replace hSw : Sg476_0 w := hSw; rw [HSg476_0.out] at hSw; (try dsimp only at hSw); first | (go_simp; done) | (go_simp; with_reducible rfl)
                            try simp only [Act.put, List.setIfInBounds_toArray, List.set_cons_zero, List.set_cons_succ]
                            refine heldp_take (v := ?_) 13 0 rfl (by kernel_rfl) (.inl ⟨by rfl, ?_⟩) hHeld ?_
                            rotate_left
                            · intro w hSw; replace hSw : Sg476_0 w := hSw; rw [HSg476_0.out] at hSw; (try dsimp only at hSw); first | (go_simp; done) | (go_simp; with_reducible rfl)
                            try simp only [Act.put, List.setIfInBounds_toArray, List.set_cons_zero, List.set_cons_succ]
                            refine heldp_take (v := ?_) 15 0 rfl (by kernel_rfl) (.inl ⟨by rfl, ?_⟩) hHeld ?_
                            rotate_left
                            · intro w hSw; replace hSw : Sg476_0 w := hSw; rw [HSg476_0.out] at hSw; (try dsimp only at hSw); first | (go_simp; done) | (go_simp; with_reducible rfl)
                            try simp only [Act.put, List.setIfInBounds_toArray, List.set_cons_zero, List.set_cons_succ]
                            refine heldp_call 14 0 rfl (by kernel_rfl) (fun K hK => ?_)
                            go_simp
                            go_at_call 28
                            refine (l2Of _ _ _ _ _ _ _ wc).mono ?_
                            rintro e wc ⟨rfl, hfd⟩
                            replace HG := Lib.hid (HG.out.trans' hfd)
                            clear hfd
                            refine hK.out _ _ ?_ (fun hHeld' => ?_)
                            · show Sg476_0 _; rw [HSg476_0.out]; have hq := HG.out; exact ⟨hq.cell i0 (fun f => f), hq.cell i1 (fun f => f), hq.cell i2 (fun f => f), hq.cell i3 (fun f => f), hq.cell i4 (fun f => f), hq.cell j0 (fun f => f), hq.cell j1 (fun f => f), hq.cell j2 (fun f => f), hq.cell j3 (fun f => f), hq.cell j4 (fun f => f)⟩
                            clear hK K hHeld
                            have hHeld := hHeld'
                            clear hHeld'
                            try simp only [Act.put, List.setIfInBounds_toArray, List.set_cons_zero, List.set_cons_succ]
                            refine heldp_call 16 0 rfl (by kernel_rfl) (fun K hK => ?_)
                            go_simp
                            go_at_call 28
                            refine (l2Of _ _ _ _ _ _ _ wc).mono ?_
                            rintro e wc ⟨rfl, hfd⟩
                            replace HG := Lib.hid (HG.out.trans' hfd)
                            clear hfd
                            refine hK.out _ _ ?_ (fun hHeld' => ?_)
                            · show Sg476_0 _; rw [HSg476_0.out]; have hq := HG.out; exact ⟨hq.cell i0 (fun f => f), hq.cell i1 (fun f => f), hq.cell i2 (fun f => f), hq.cell i3 (fun f => f), hq.cell i4 (fun f => f), hq.cell j0 (fun f => f), hq.cell j1 (fun f => f), hq.cell j2 (fun f => f), hq.cell j3 (fun f => f), hq.cell j4 (fun f => f)⟩
                            clear hK K hHeld
                            have hHeld := hHeld'
                            clear hHeld'
                            try simp only [Act.put, List.setIfInBounds_toArray, List.set_cons_zero, List.set_cons_succ]
                            refine heldp_call 17 0 rfl (by kernel_rfl) (fun K hK => ?_)
                            go_simp
                            go_at_call 27
                            refine (Hsr.out _ (HF.out.trans' HG.out)).mono ?_
                            rintro e wc ⟨rfl, hfd⟩
                            replace HG := Lib.hid (HG.out.trans' hfd)
                            clear hfd
                            refine hK.out _ _ ?_ (fun hHeld' => ?_)
                            · show Sg476_0 _; rw [HSg476_0.out]; have hq := HG.out; exact ⟨hq.cell i0 (fun f => f), hq.cell i1 (fun f => f), hq.cell i2 (fun f => f), hq.cell i3 (fun f => f), hq.cell i4 (fun f => f), hq.cell j0 (fun f => f), hq.cell j1 (fun f => f), hq.cell j2 (fun f => f), hq.cell j3 (fun f => f), hq.cell j4 (fun f => f)⟩
                            clear hK K hHeld
                            have hHeld := hHeld'
                            clear hHeld'
                            try simp only [Act.put, List.setIfInBounds_toArray, List.set_cons_zero, List.set_cons_succ]
                            refine heldp_take (v := ?_) 18 0 rfl (by kernel_rfl) (.inl ⟨by rfl, ?_⟩) hHeld ?_
                            rotate_left
                            · intro w hSw; replace hSw : Sg476_0 w := hSw; rw [HSg476_0.out] at hSw; (try dsimp only at hSw); first | (go_simp; done) | (go_simp; with_reducible rfl)
                            try simp only [Act.put, List.setIfInBounds_toArray, List.set_cons_zero, List.set_cons_succ]
                            refine heldp_take (v := ?_) 19 0 rfl (by kernel_rfl) (.inl ⟨by rfl, ?_⟩) hHeld ?_
                            rotate_left
                            · intro w hSw; replace hSw : Sg476_0 w := hSw; rw [HSg476_0.out] at hSw; (try dsimp only at hSw); first | (go_simp; done) | (go_simp; with_reducible rfl)
                            try simp only [Act.put, List.setIfInBounds_toArray, List.set_cons_zero, List.set_cons_succ]
                            refine heldp_done (by kernel_rfl) ?_
                            try clear hHeld
                            clear HSg476_0
                            try clear Sg476_0
                            clear i0 i1 i2 i3 i4 j0 j1 j2 j3 j4 Hsr Bx By
                            go_wp2
                            go_ret
                            exact ⟨rfl, (((HF7.out.trans' hF.out).trans' hG.out).trans' HF.out).trans' HG.out⟩
                          · have HN2 := Hnext.out (fun _ _ => hb)
                            clear Hnext hb
                            go_upto_region 23 with (fail)
                            obtain ⟨Sg598_0, HSg598_0⟩ : ∃ S : World → Prop, Hid (S = (fun w' => w'.cell? ⟨gx, 0, none⟩ = some (.int .i64 ms) ∧ w'.cell? ⟨gx, 1, none⟩ = some (.int .i64 mq) ∧ w'.cell? ⟨gx, 2, none⟩ = some (.slice mO mdep.length mc) ∧ w'.cell? ⟨gx, 3, none⟩ = some (.string mk) ∧ w'.cell? ⟨gx, 4, none⟩ = some (.string mx) ∧ w'.cell? ⟨gy, 0, none⟩ = some (.int .i64 ms) ∧ w'.cell? ⟨gy, 1, none⟩ = some (.int .i64 mq) ∧ w'.cell? ⟨gy, 2, none⟩ = some (.slice pO pdep.length pc) ∧ w'.cell? ⟨gy, 3, none⟩ = some (.string pk) ∧ w'.cell? ⟨gy, 4, none⟩ = some (.string px))) := ⟨_, Lib.hid rfl⟩
                            refine wp_heldp [] (pickS [Sg598_0]) (by kernel_rfl) ?_ (fun hHeld => ?_)
                            · show Sg598_0 _; rw [HSg598_0.out]; exact ⟨i0, i1, i2, i3, i4, j0, j1, j2, j3, j4⟩
                            obtain ⟨wc, hwc⟩ : ∃ x, V.drew = x := ⟨_, rfl⟩; rw [hwc] at hHeld; rw [hwc]; have HG : Hid (Fr no V wc) := (by rw [← hwc]; exact Lib.hid ((Fr.refl no V).drewN 1)); clear hwc
                            refine heldp_take (v := ?_) 0 0 rfl (by kernel_rfl) (.inl ⟨by rfl, ?_⟩) hHeld ?_
                            rotate_left
                            · intro w hSw; replace hSw : Sg598_0 w := hSw; rw [HSg598_0.out] at hSw; (try dsimp only at hSw); first | (go_simp; done) | (go_simp; with_reducible rfl)
                            try simp only [Act.put, List.setIfInBounds_toArray, List.set_cons_zero, List.set_cons_succ]
                            refine heldp_take (v := ?_) 1 0 rfl (by kernel_rfl) (.inl ⟨by rfl, ?_⟩) hHeld ?_
                            rotate_left
                            · intro w hSw; replace hSw : Sg598_0 w := hSw; rw [HSg598_0.out] at hSw; (try dsimp only at hSw); first | (go_simp; done) | (go_simp; with_reducible rfl)
                            try simp only [Act.put, List.setIfInBounds_toArray, List.set_cons_zero, List.set_cons_succ]
                            refine heldp_take (v := ?_) 2 0 rfl (by kernel_rfl) (.inl ⟨by rfl, ?_⟩) hHeld ?_
                            rotate_left
                            · intro w hSw; replace hSw : Sg598_0 w := hSw; rw [HSg598_0.out] at hSw; (try dsimp only at hSw); first | (go_simp; done) | (go_simp; with_reducible rfl)
                            try simp only [Act.put, List.setIfInBounds_toArray, List.set_cons_zero, List.set_cons_succ]
                            refine heldp_take (v := ?_) 3 0 rfl (by kernel_rfl) (.inl ⟨by rfl, ?_⟩) hHeld ?_
                            rotate_left
                            · intro w hSw; replace hSw : Sg598_0 w := hSw; rw [HSg598_0.out] at hSw; (try dsimp only at hSw); first | (go_simp; done) | (go_simp; with_reducible rfl)
                            try simp only [Act.put, List.setIfInBounds_toArray, List.set_cons_zero, List.set_cons_succ]
                            refine heldp_take (v := ?_) 4 0 rfl (by kernel_rfl) (.inl ⟨by rfl, ?_⟩) hHeld ?_
                            rotate_left
                            · intro w hSw; replace hSw : Sg598_0 w := hSw; rw [HSg598_0.out] at hSw; (try dsimp only at hSw); first | (go_simp; done) | (go_simp; with_reducible rfl)
                            try simp only [Act.put, List.setIfInBounds_toArray, List.set_cons_zero, List.set_cons_succ]
                            refine heldp_take (v := ?_) 5 0 rfl (by kernel_rfl) (.inl ⟨by rfl, ?_⟩) hHeld ?_
                            rotate_left
                            · intro w hSw; replace hSw : Sg598_0 w := hSw; rw [HSg598_0.out] at hSw; (try dsimp only at hSw); first | (go_simp; done) | (go_simp; with_reducible rfl)
                            try simp only [Act.put, List.setIfInBounds_toArray, List.set_cons_zero, List.set_cons_succ]
                            refine heldp_take (v := ?_) 6 0 rfl (by kernel_rfl) (.inl ⟨by rfl, ?_⟩) hHeld ?_
                            rotate_left
                            · intro w hSw; replace hSw : Sg598_0 w := hSw; rw [HSg598_0.out] at hSw; (try dsimp only at hSw); first | (go_simp; done) | (go_simp; with_reducible rfl)
                            try simp only [Act.put, List.setIfInBounds_toArray, List.set_cons_zero, List.set_cons_succ]
                            refine heldp_take (v := ?_) 7 0 rfl (by kernel_rfl) (.inl ⟨by rfl, ?_⟩) hHeld ?_
                            rotate_left
                            · intro w hSw; replace hSw : Sg598_0 w := hSw; rw [HSg598_0.out] at hSw; (try dsimp only at hSw); first | (go_simp; done) | (go_simp; with_reducible rfl)
                            try simp only [Act.put, List.setIfInBounds_toArray, List.set_cons_zero, List.set_cons_succ]
                            refine heldp_take (v := ?_) 8 0 rfl (by kernel_rfl) (.inl ⟨by rfl, ?_⟩) hHeld ?_
                            rotate_left
                            · intro w hSw; replace hSw : Sg598_0 w := hSw; rw [HSg598_0.out] at hSw; (try dsimp only at hSw); first | (go_simp; done) | (go_simp; with_reducible rfl)
                            try simp only [Act.put, List.setIfInBounds_toArray, List.set_cons_zero, List.set_cons_succ]
                            refine heldp_take (v := ?_) 9 0 rfl (by kernel_rfl) (.inl ⟨by rfl, ?_⟩) hHeld ?_
                            rotate_left
                            · intro w hSw; replace hSw : Sg598_0 w := hSw; rw [HSg598_0.out] at hSw; (try dsimp only at hSw); first | (go_simp; done) | (go_simp; with_reducible rfl)
                            try simp only [Act.put, List.setIfInBounds_toArray, List.set_cons_zero, List.set_cons_succ]
                            refine heldp_take (v := ?_) 10 0 rfl (by kernel_rfl) (.inl ⟨by rfl, ?_⟩) hHeld ?_
                            rotate_left
                            · intro w hSw; replace hSw : Sg598_0 w := hSw; rw [HSg598_0.out] at hSw; (try dsimp only at hSw); first | (go_simp; done) | (go_simp; with_reducible rfl)
                            try simp only [Act.put, List.setIfInBounds_toArray, List.set_cons_zero, List.set_cons_succ]
                            refine heldp_take (v := ?_) 11 0 rfl (by kernel_rfl) (.inl ⟨by rfl, ?_⟩) hHeld ?_
                            rotate_left
                            · intro w hSw; replace hSw : Sg598_0 w := hSw; rw [HSg598_0.out] at hSw; (try dsimp only at hSw); first | (go_simp; done) | (go_simp; with_reducible rfl)
                            try simp only [Act.put, List.setIfInBounds_toArray, List.set_cons_zero, List.set_cons_succ]
                            refine heldp_take (v := ?_) 12 0 rfl (by kernel_rfl) (.inl ⟨by rfl, ?_⟩) hHeld ?_
                            rotate_left
                            · intro w hSw; replace hSw : Sg598_0 w := hSw; rw [HSg598_0.out] at hSw; (try dsimp only at hSw); first | (go_simp; done) | (go_simp; with_reducible rfl)
                            try simp only [Act.put, List.setIfInBounds_toArray, List.set_cons_zero, List.set_cons_succ]
                            refine heldp_take (v := ?_) 13 0 rfl (by kernel_rfl) (.inl ⟨by rfl, ?_⟩) hHeld ?_
                            rotate_left
                            · intro w hSw; replace hSw : Sg598_0 w := hSw; rw [HSg598_0.out] at hSw; (try dsimp only at hSw); first | (go_simp; done) | (go_simp; with_reducible rfl)
                            try simp only [Act.put, List.setIfInBounds_toArray, List.set_cons_zero, List.set_cons_succ]
                            refine heldp_take (v := ?_) 15 0 rfl (by kernel_rfl) (.inl ⟨by rfl, ?_⟩) hHeld ?_
                            rotate_left
                            · intro w hSw; replace hSw : Sg598_0 w := hSw; rw [HSg598_0.out] at hSw; (try dsimp only at hSw); first | (go_simp; done) | (go_simp; with_reducible rfl)
                            try simp only [Act.put, List.setIfInBounds_toArray, List.set_cons_zero, List.set_cons_succ]
                            refine heldp_call 14 0 rfl (by kernel_rfl) (fun K hK => ?_)
                            go_simp
                            go_at_call 28
                            refine (l2Of _ _ _ _ _ _ _ wc).mono ?_
                            rintro e wc ⟨rfl, hfd⟩
                            replace HG := Lib.hid (HG.out.trans' hfd)
                            clear hfd
                            refine hK.out _ _ ?_ (fun hHeld' => ?_)
                            · show Sg598_0 _; rw [HSg598_0.out]; have hq := HG.out; exact ⟨hq.cell i0 (fun f => f), hq.cell i1 (fun f => f), hq.cell i2 (fun f => f), hq.cell i3 (fun f => f), hq.cell i4 (fun f => f), hq.cell j0 (fun f => f), hq.cell j1 (fun f => f), hq.cell j2 (fun f => f), hq.cell j3 (fun f => f), hq.cell j4 (fun f => f)⟩
                            clear hK K hHeld
                            have hHeld := hHeld'
                            clear hHeld'
                            try simp only [Act.put, List.setIfInBounds_toArray, List.set_cons_zero, List.set_cons_succ]
                            refine heldp_call 16 0 rfl (by kernel_rfl) (fun K hK => ?_)
                            go_simp
                            go_at_call 28
                            refine (l2Of _ _ _ _ _ _ _ wc).mono ?_
                            rintro e wc ⟨rfl, hfd⟩
                            replace HG := Lib.hid (HG.out.trans' hfd)
                            clear hfd
                            refine hK.out _ _ ?_ (fun hHeld' => ?_)
                            · show Sg598_0 _; rw [HSg598_0.out]; have hq := HG.out; exact ⟨hq.cell i0 (fun f => f), hq.cell i1 (fun f => f), hq.cell i2 (fun f => f), hq.cell i3 (fun f => f), hq.cell i4 (fun f => f), hq.cell j0 (fun f => f), hq.cell j1 (fun f => f), hq.cell j2 (fun f => f), hq.cell j3 (fun f => f), hq.cell j4 (fun f => f)⟩
                            clear hK K hHeld
                            have hHeld := hHeld'
                            clear hHeld'
                            try simp only [Act.put, List.setIfInBounds_toArray, List.set_cons_zero, List.set_cons_succ]
                            refine heldp_call 17 0 rfl (by kernel_rfl) (fun K hK => ?_)
                            go_simp
                            go_at_call 27
                            refine (Hsr.out _ (HF.out.trans' HG.out)).mono ?_
                            rintro e wc ⟨rfl, hfd⟩
                            replace HG := Lib.hid (HG.out.trans' hfd)
                            clear hfd
                            refine hK.out _ _ ?_ (fun hHeld' => ?_)
                            · show Sg598_0 _; rw [HSg598_0.out]; have hq := HG.out; exact ⟨hq.cell i0 (fun f => f), hq.cell i1 (fun f => f), hq.cell i2 (fun f => f), hq.cell i3 (fun f => f), hq.cell i4 (fun f => f), hq.cell j0 (fun f => f), hq.cell j1 (fun f => f), hq.cell j2 (fun f => f), hq.cell j3 (fun f => f), hq.cell j4 (fun f => f)⟩
                            clear hK K hHeld
                            have hHeld := hHeld'
                            clear hHeld'
                            try simp only [Act.put, List.setIfInBounds_toArray, List.set_cons_zero, List.set_cons_succ]
                            refine heldp_take (v := ?_) 18 0 rfl (by kernel_rfl) (.inl ⟨by rfl, ?_⟩) hHeld ?_
                            rotate_left
                            · intro w hSw; replace hSw : Sg598_0 w := hSw; rw [HSg598_0.out] at hSw; (try dsimp only at hSw); first | (go_simp; done) | (go_simp; with_reducible rfl)
                            try simp only [Act.put, List.setIfInBounds_toArray, List.set_cons_zero, List.set_cons_succ]
                            refine heldp_take (v := ?_) 19 0 rfl (by kernel_rfl) (.inl ⟨by rfl, ?_⟩) hHeld ?_
                            rotate_left
                            · intro w hSw; replace hSw : Sg598_0 w := hSw; rw [HSg598_0.out] at hSw; (try dsimp only at hSw); first | (go_simp; done) | (go_simp; with_reducible rfl)
                            try simp only [Act.put, List.setIfInBounds_toArray, List.set_cons_zero, List.set_cons_succ]
                            refine heldp_done (by kernel_rfl) ?_
                            try clear hHeld
                            clear HSg598_0
                            try clear Sg598_0
                            clear i0 i1 i2 i3 i4 j0 j1 j2 j3 j4 Hsr Bx By
                            go_wp2
                            go_roundw
                            case rel => exact ⟨k + 1, by omega, by go_num, HN2, Lib.hid ((hG.out.trans' HF.out).trans' HG.out)⟩
                            case measure => simp [intOf]; omega
                        · have HN2 := Hnext.out (fun _ h => absurd h hq)
                          have hq2 : (mq == pq) = false := by simpa using hq
                          clear Hnext hq
                          go_upto_region 23 with (fail)
                          obtain ⟨Sg722_0, HSg722_0⟩ : ∃ S : World → Prop, Hid (S = (fun w' => w'.cell? ⟨gx, 0, none⟩ = some (.int .i64 ms) ∧ w'.cell? ⟨gx, 1, none⟩ = some (.int .i64 mq) ∧ w'.cell? ⟨gy, 0, none⟩ = some (.int .i64 ms) ∧ w'.cell? ⟨gy, 1, none⟩ = some (.int .i64 pq))) := ⟨_, Lib.hid rfl⟩
                          refine wp_heldp [] (pickS [Sg722_0]) (by kernel_rfl) ?_ (fun hHeld => ?_)
                          · show Sg722_0 _; rw [HSg722_0.out]; exact ⟨i0, i1, j0, j1⟩
                          obtain ⟨wc, hwc⟩ : ∃ x, V.drew = x := ⟨_, rfl⟩; rw [hwc] at hHeld; rw [hwc]; have HG : Hid (Fr no V wc) := (by rw [← hwc]; exact Lib.hid ((Fr.refl no V).drewN 1)); clear hwc
                          refine heldp_take (v := ?_) 0 0 rfl (by kernel_rfl) (.inl ⟨by rfl, ?_⟩) hHeld ?_
                          rotate_left
                          · intro w hSw; replace hSw : Sg722_0 w := hSw; rw [HSg722_0.out] at hSw; (try dsimp only at hSw); first | (go_simp; done) | (go_simp; with_reducible rfl)
                          try simp only [Act.put, List.setIfInBounds_toArray, List.set_cons_zero, List.set_cons_succ]
                          refine heldp_take (v := ?_) 1 0 rfl (by kernel_rfl) (.inl ⟨by rfl, ?_⟩) hHeld ?_
                          rotate_left
                          · intro w hSw; replace hSw : Sg722_0 w := hSw; rw [HSg722_0.out] at hSw; (try dsimp only at hSw); first | (go_simp; done) | (go_simp; with_reducible rfl)
                          try simp only [Act.put, List.setIfInBounds_toArray, List.set_cons_zero, List.set_cons_succ]
                          refine heldp_take (v := ?_) 2 0 rfl (by kernel_rfl) (.inl ⟨by rfl, ?_⟩) hHeld ?_
                          rotate_left
                          · intro w hSw; replace hSw : Sg722_0 w := hSw; rw [HSg722_0.out] at hSw; (try dsimp only at hSw); first | (go_simp; done) | (go_simp; with_reducible rfl)
                          try simp only [Act.put, List.setIfInBounds_toArray, List.set_cons_zero, List.set_cons_succ]
                          refine heldp_take (v := ?_) 3 0 rfl (by kernel_rfl) (.inl ⟨by rfl, ?_⟩) hHeld ?_
                          rotate_left
                          · intro w hSw; replace hSw : Sg722_0 w := hSw; rw [HSg722_0.out] at hSw; (try dsimp only at hSw); first | (go_simp; done) | (go_simp; with_reducible rfl)
                          try simp only [Act.put, List.setIfInBounds_toArray, List.set_cons_zero, List.set_cons_succ]
                          refine heldp_take (v := ?_) 4 0 rfl (by kernel_rfl) (.inl ⟨by rfl, ?_⟩) hHeld ?_
                          rotate_left
                          · intro w hSw; replace hSw : Sg722_0 w := hSw; rw [HSg722_0.out] at hSw; (try dsimp only at hSw); first | (go_simp; done) | (go_simp; with_reducible rfl)
                          try simp only [Act.put, List.setIfInBounds_toArray, List.set_cons_zero, List.set_cons_succ]
                          refine heldp_take (v := ?_) 5 0 rfl (by kernel_rfl) (.inl ⟨by rfl, ?_⟩) hHeld ?_
                          rotate_left
                          · intro w hSw; replace hSw : Sg722_0 w := hSw; rw [HSg722_0.out] at hSw; (try dsimp only at hSw); first | (go_simp; done) | (go_simp; with_reducible rfl)
                          try simp only [Act.put, List.setIfInBounds_toArray, List.set_cons_zero, List.set_cons_succ]
                          refine heldp_take (v := ?_) 6 0 rfl (by kernel_rfl) (.inl ⟨by rfl, ?_⟩) hHeld ?_
                          rotate_left
                          · intro w hSw; replace hSw : Sg722_0 w := hSw; rw [HSg722_0.out] at hSw; (try dsimp only at hSw); first | (go_simp; done) | (go_simp; with_reducible rfl)
                          try simp only [Act.put, List.setIfInBounds_toArray, List.set_cons_zero, List.set_cons_succ]
                          refine heldp_take (v := ?_) 7 0 rfl (by kernel_rfl) (.inl ⟨by rfl, ?_⟩) hHeld ?_
                          rotate_left
                          · intro w hSw; replace hSw : Sg722_0 w := hSw; rw [HSg722_0.out] at hSw; (try dsimp only at hSw); first | (go_simp; done) | (go_simp; with_reducible rfl)
                          try simp only [Act.put, List.setIfInBounds_toArray, List.set_cons_zero, List.set_cons_succ]
                          refine heldp_take (v := ?_) 8 0 rfl (by kernel_rfl) (.inl ⟨by rfl, ?_⟩) hHeld ?_
                          rotate_left
                          · intro w hSw; replace hSw : Sg722_0 w := hSw; rw [HSg722_0.out] at hSw; (try dsimp only at hSw); first | (go_simp; done) | (go_simp; with_reducible rfl)
                          try simp only [Act.put, List.setIfInBounds_toArray, List.set_cons_zero, List.set_cons_succ]
                          refine heldp_take (v := ?_) 9 0 rfl (by kernel_rfl) (.inl ⟨by rfl, ?_⟩) hHeld ?_
                          rotate_left
                          · intro w hSw; replace hSw : Sg722_0 w := hSw; rw [HSg722_0.out] at hSw; (try dsimp only at hSw); first | (go_simp; done) | (go_simp; with_reducible rfl)
                          try simp only [Act.put, List.setIfInBounds_toArray, List.set_cons_zero, List.set_cons_succ]
                          refine heldp_take (v := (.bool false)) 10 0 rfl (by kernel_rfl) (.inl ⟨by rfl, ?_⟩) hHeld ?_
                          · intro w hSw; replace hSw : Sg722_0 w := hSw; rw [HSg722_0.out] at hSw; (try dsimp only at hSw); first | (go_simp; done) | (go_simp; with_reducible rfl)
                          try simp only [Act.put, List.setIfInBounds_toArray, List.set_cons_zero, List.set_cons_succ]
                          refine heldp_take (v := ?_) 11 0 rfl (by kernel_rfl) (.inl ⟨by rfl, ?_⟩) hHeld ?_
                          rotate_left
                          · intro w hSw; replace hSw : Sg722_0 w := hSw; rw [HSg722_0.out] at hSw; (try dsimp only at hSw); first | (go_simp; done) | (go_simp; with_reducible rfl)
                          try simp only [Act.put, List.setIfInBounds_toArray, List.set_cons_zero, List.set_cons_succ]
                          refine heldp_take (v := ?_) 12 0 rfl (by kernel_rfl) (.inl ⟨by rfl, ?_⟩) hHeld ?_
                          rotate_left
                          · intro w hSw; replace hSw : Sg722_0 w := hSw; rw [HSg722_0.out] at hSw; (try dsimp only at hSw); first | (go_simp; done) | (go_simp; with_reducible rfl)
                          try simp only [Act.put, List.setIfInBounds_toArray, List.set_cons_zero, List.set_cons_succ]
                          refine heldp_take 13 0 rfl (by kernel_rfl) (.inr ⟨by rfl, rfl⟩) hHeld ?_
                          try simp only [Act.put, List.setIfInBounds_toArray, List.set_cons_zero, List.set_cons_succ]
                          refine heldp_take 14 0 rfl (by kernel_rfl) (.inr ⟨by rfl, rfl⟩) hHeld ?_
                          try simp only [Act.put, List.setIfInBounds_toArray, List.set_cons_zero, List.set_cons_succ]
                          refine heldp_take 15 0 rfl (by kernel_rfl) (.inr ⟨by rfl, rfl⟩) hHeld ?_
                          try simp only [Act.put, List.setIfInBounds_toArray, List.set_cons_zero, List.set_cons_succ]
                          refine heldp_take 16 0 rfl (by kernel_rfl) (.inr ⟨by rfl, rfl⟩) hHeld ?_
                          try simp only [Act.put, List.setIfInBounds_toArray, List.set_cons_zero, List.set_cons_succ]
                          refine heldp_take 17 0 rfl (by kernel_rfl) (.inr ⟨by rfl, rfl⟩) hHeld ?_
                          try simp only [Act.put, List.setIfInBounds_toArray, List.set_cons_zero, List.set_cons_succ]
                          refine heldp_take 18 0 rfl (by kernel_rfl) (.inr ⟨by rfl, rfl⟩) hHeld ?_
                          try simp only [Act.put, List.setIfInBounds_toArray, List.set_cons_zero, List.set_cons_succ]
                          refine heldp_take (v := ?_) 19 0 rfl (by kernel_rfl) (.inl ⟨by rfl, ?_⟩) hHeld ?_
                          rotate_left
                          · intro w hSw; replace hSw : Sg722_0 w := hSw; rw [HSg722_0.out] at hSw; (try dsimp only at hSw); first | (go_simp; done) | (go_simp; with_reducible rfl)
                          try simp only [Act.put, List.setIfInBounds_toArray, List.set_cons_zero, List.set_cons_succ]
                          refine heldp_done (by kernel_rfl) ?_
                          try clear hHeld
                          clear HSg722_0
                          try clear Sg722_0
                          clear i0 i1 i2 i3 i4 j0 j1 j2 j3 j4 Hsr Bx By
                          go_wp2
                          go_roundw
                          case rel => exact ⟨k + 1, by omega, by go_num, HN2, Lib.hid ((hG.out.trans' HF.out).trans' HG.out)⟩
                          case measure => simp [intOf]; omega
                      · have HN2 := Hnext.out (fun h => absurd h hs)
                        have hs2 : (ms == ps) = false := by simpa using hs
                        clear Hnext hs
                        go_upto_region 23 with (fail)
                        obtain ⟨Sg806_0, HSg806_0⟩ : ∃ S : World → Prop, Hid (S = (fun w' => w'.cell? ⟨gx, 0, none⟩ = some (.int .i64 ms) ∧ w'.cell? ⟨gy, 0, none⟩ = some (.int .i64 ps))) := ⟨_, Lib.hid rfl⟩
                        refine wp_heldp [] (pickS [Sg806_0]) (by kernel_rfl) ?_ (fun hHeld => ?_)
                        · show Sg806_0 _; rw [HSg806_0.out]; exact ⟨i0, j0⟩
                        obtain ⟨wc, hwc⟩ : ∃ x, V.drew = x := ⟨_, rfl⟩; rw [hwc] at hHeld; rw [hwc]; have HG : Hid (Fr no V wc) := (by rw [← hwc]; exact Lib.hid ((Fr.refl no V).drewN 1)); clear hwc
                        refine heldp_take (v := ?_) 0 0 rfl (by kernel_rfl) (.inl ⟨by rfl, ?_⟩) hHeld ?_
                        rotate_left
                        · intro w hSw; replace hSw : Sg806_0 w := hSw; rw [HSg806_0.out] at hSw; (try dsimp only at hSw); first | (go_simp; done) | (go_simp; with_reducible rfl)
                        try simp only [Act.put, List.setIfInBounds_toArray, List.set_cons_zero, List.set_cons_succ]
                        refine heldp_take (v := ?_) 1 0 rfl (by kernel_rfl) (.inl ⟨by rfl, ?_⟩) hHeld ?_
                        rotate_left
                        · intro w hSw; replace hSw : Sg806_0 w := hSw; rw [HSg806_0.out] at hSw; (try dsimp only at hSw); first | (go_simp; done) | (go_simp; with_reducible rfl)
                        try simp only [Act.put, List.setIfInBounds_toArray, List.set_cons_zero, List.set_cons_succ]
                        refine heldp_take (v := ?_) 2 0 rfl (by kernel_rfl) (.inl ⟨by rfl, ?_⟩) hHeld ?_
                        rotate_left
                        · intro w hSw; replace hSw : Sg806_0 w := hSw; rw [HSg806_0.out] at hSw; (try dsimp only at hSw); first | (go_simp; done) | (go_simp; with_reducible rfl)
                        try simp only [Act.put, List.setIfInBounds_toArray, List.set_cons_zero, List.set_cons_succ]
                        refine heldp_take (v := ?_) 3 0 rfl (by kernel_rfl) (.inl ⟨by rfl, ?_⟩) hHeld ?_
                        rotate_left
                        · intro w hSw; replace hSw : Sg806_0 w := hSw; rw [HSg806_0.out] at hSw; (try dsimp only at hSw); first | (go_simp; done) | (go_simp; with_reducible rfl)
                        try simp only [Act.put, List.setIfInBounds_toArray, List.set_cons_zero, List.set_cons_succ]
                        refine heldp_take (v := (.bool false)) 4 0 rfl (by kernel_rfl) (.inl ⟨by rfl, ?_⟩) hHeld ?_
                        · intro w hSw; replace hSw : Sg806_0 w := hSw; rw [HSg806_0.out] at hSw; (try dsimp only at hSw); first | (go_simp; done) | (go_simp; with_reducible rfl)
                        try simp only [Act.put, List.setIfInBounds_toArray, List.set_cons_zero, List.set_cons_succ]
                        refine heldp_take (v := ?_) 5 0 rfl (by kernel_rfl) (.inl ⟨by rfl, ?_⟩) hHeld ?_
                        rotate_left
                        · intro w hSw; replace hSw : Sg806_0 w := hSw; rw [HSg806_0.out] at hSw; (try dsimp only at hSw); first | (go_simp; done) | (go_simp; with_reducible rfl)
                        try simp only [Act.put, List.setIfInBounds_toArray, List.set_cons_zero, List.set_cons_succ]
                        refine heldp_take 6 0 rfl (by kernel_rfl) (.inr ⟨by rfl, rfl⟩) hHeld ?_
                        try simp only [Act.put, List.setIfInBounds_toArray, List.set_cons_zero, List.set_cons_succ]
                        refine heldp_take 7 0 rfl (by kernel_rfl) (.inr ⟨by rfl, rfl⟩) hHeld ?_
                        try simp only [Act.put, List.setIfInBounds_toArray, List.set_cons_zero, List.set_cons_succ]
                        refine heldp_take 8 0 rfl (by kernel_rfl) (.inr ⟨by rfl, rfl⟩) hHeld ?_
                        try simp only [Act.put, List.setIfInBounds_toArray, List.set_cons_zero, List.set_cons_succ]
                        refine heldp_take 9 0 rfl (by kernel_rfl) (.inr ⟨by rfl, rfl⟩) hHeld ?_
                        try simp only [Act.put, List.setIfInBounds_toArray, List.set_cons_zero, List.set_cons_succ]
                        refine heldp_take 10 0 rfl (by kernel_rfl) (.inr ⟨by rfl, rfl⟩) hHeld ?_
                        try simp only [Act.put, List.setIfInBounds_toArray, List.set_cons_zero, List.set_cons_succ]
                        refine heldp_take (v := ?_) 11 0 rfl (by kernel_rfl) (.inl ⟨by rfl, ?_⟩) hHeld ?_
                        rotate_left
                        · intro w hSw; replace hSw : Sg806_0 w := hSw; rw [HSg806_0.out] at hSw; (try dsimp only at hSw); first | (go_simp; done) | (go_simp; with_reducible rfl)
                        try simp only [Act.put, List.setIfInBounds_toArray, List.set_cons_zero, List.set_cons_succ]
                        refine heldp_take (v := ?_) 12 0 rfl (by kernel_rfl) (.inl ⟨by rfl, ?_⟩) hHeld ?_
                        rotate_left
                        · intro w hSw; replace hSw : Sg806_0 w := hSw; rw [HSg806_0.out] at hSw; (try dsimp only at hSw); first | (go_simp; done) | (go_simp; with_reducible rfl)
                        try simp only [Act.put, List.setIfInBounds_toArray, List.set_cons_zero, List.set_cons_succ]
                        refine heldp_take 13 0 rfl (by kernel_rfl) (.inr ⟨by rfl, rfl⟩) hHeld ?_
                        try simp only [Act.put, List.setIfInBounds_toArray, List.set_cons_zero, List.set_cons_succ]
                        refine heldp_take 14 0 rfl (by kernel_rfl) (.inr ⟨by rfl, rfl⟩) hHeld ?_
                        try simp only [Act.put, List.setIfInBounds_toArray, List.set_cons_zero, List.set_cons_succ]
                        refine heldp_take 15 0 rfl (by kernel_rfl) (.inr ⟨by rfl, rfl⟩) hHeld ?_
                        try simp only [Act.put, List.setIfInBounds_toArray, List.set_cons_zero, List.set_cons_succ]
                        refine heldp_take 16 0 rfl (by kernel_rfl) (.inr ⟨by rfl, rfl⟩) hHeld ?_
                        try simp only [Act.put, List.setIfInBounds_toArray, List.set_cons_zero, List.set_cons_succ]
                        refine heldp_take 17 0 rfl (by kernel_rfl) (.inr ⟨by rfl, rfl⟩) hHeld ?_
                        try simp only [Act.put, List.setIfInBounds_toArray, List.set_cons_zero, List.set_cons_succ]
                        refine heldp_take 18 0 rfl (by kernel_rfl) (.inr ⟨by rfl, rfl⟩) hHeld ?_
                        try simp only [Act.put, List.setIfInBounds_toArray, List.set_cons_zero, List.set_cons_succ]
                        refine heldp_take (v := ?_) 19 0 rfl (by kernel_rfl) (.inl ⟨by rfl, ?_⟩) hHeld ?_
                        rotate_left
                        · intro w hSw; replace hSw : Sg806_0 w := hSw; rw [HSg806_0.out] at hSw; (try dsimp only at hSw); first | (go_simp; done) | (go_simp; with_reducible rfl)
                        try simp only [Act.put, List.setIfInBounds_toArray, List.set_cons_zero, List.set_cons_succ]
                        refine heldp_done (by kernel_rfl) ?_
                        try clear hHeld
                        clear HSg806_0
                        try clear Sg806_0
                        clear i0 i1 i2 i3 i4 j0 j1 j2 j3 j4 Hsr Bx By
                        go_wp2
                        go_roundw
                        case rel => exact ⟨k + 1, by omega, by go_num, HN2, Lib.hid ((hG.out.trans' HF.out).trans' HG.out)⟩
                        case measure => simp [intOf]; omega
                  · have HT2 : Hid (∀ (a b : Nat) (x y : Dr), b < a → a < i + 1 → all[a]? = some x → all[b]? = some y → PairTold x y) := Lib.hid (fun a b x' y h1 h2 h3 h4 => by
                      by_cases e : a = i
                      · subst e
                        rw [HX.out] at h3
                        cases h3
                        exact hO.out b y (by omega) h4
                      · exact hT.out a b x' y h1 (by omega) h3 h4)
                    clear hO hT
                    go_wp2
                    go_roundw
                    case rel => exact ⟨i + 1, by omega, by go_num, HT2, Lib.hid (hF.out.trans' hG.out)⟩
                    case measure => simp [intOf]; omega
              · have HTold : Hid (∀ (a b : Nat) (x y : Dr), b < a → all[a]? = some x → all[b]? = some y → PairTold x y) := Lib.hid (fun a b x y h1 h3 h4 => hT.out a b x y h1 (by have := (List.getElem?_eq_some_iff.1 h3).1; have := Hlen.out; omega) h3 h4)
                have HBY := Lib.hid (hF.out.heap HB7.out (fun f => f))
                have HFY := Lib.hid (HF7.out.trans' hF.out)
                clear hT hF HB7 HF7 HRd
                have HD : Hid (∀ d ∈ late ++ l, SpD w own d) := Lib.hid (fun d hd => ⟨Hd.out d hd, ⟨HOa.out d hd, (HG.out.dr d hd).1⟩, (HG.out.dr d hd).2.2⟩)
                have t0 := cell_of_block (j := 0) HBY.out rfl
                have t1 := cell_of_block (j := 1) HBY.out rfl
                have t2 := cell_of_block (j := 2) HBY.out rfl
                have t3 := cell_of_block (j := 3) HBY.out rfl
                go_wp2_with fail
                refine (Hadm.out HG.out _ HFY.out).mono ?_
                rintro e w4 ⟨uo, uc, lo, lc, oo, oc, rfl, hq1, hq2, hq3, hq4, hq5, hf4⟩
                obtain ⟨w5, hw5⟩ : ∃ w5, w4.alloc (.cells #[.int .i64 own, .int .i64 nx, .slice uo un uc, .slice lo ln lc] 26) = w5 := ⟨_, rfl⟩
                have hf5 : Fr no w4 w5 := by rw [← hw5]; exact (Fr.refl no w4).alloc _
                have hb5 : w5.heap[w4.heap.size]? = some (.cells #[.int .i64 own, .int .i64 nx, .slice uo un uc, .slice lo ln lc] 26 (0, 0)) := by rw [← hw5]; exact World.alloc_heap_new _ _
                have HW5 := Lib.hid hw5
                have HU5 := Lib.hid hb5
                have Q1 := Lib.hid (hq1.fr hf5 (fun _ _ _ f => f))
                have HF5 := Lib.hid (HFY.out.trans' (hf4.trans' hf5))
                have HB5 := Lib.hid ((hf4.trans' hf5).heap HBY.out (fun f => f))
                clear hq1 hq2 hq3 hq4 hq5 hf4 hf5 hb5 hw5 t0 t1 t2 t3 HBY HFY Hadm
                go_upto_region 26 with (fail)
                rw [HW5.out]
                clear HW5
                generalize w4.heap.size = gu at *
                have t0 := cell_of_block (j := 0) HB5.out rfl
                have t1 := cell_of_block (j := 1) HB5.out rfl
                have t2 := cell_of_block (j := 2) HB5.out rfl
                have t3 := cell_of_block (j := 3) HB5.out rfl
                obtain ⟨w6, hw6⟩ : ∃ w6, w5.alloc (.cells #[.int .i64 own, .int .i64 next, .slice so sn sc, .slice a0 n0 c0] 26) = w6 := ⟨_, rfl⟩
                have hf6 : Fr no w5 w6 := by rw [← hw6]; exact (Fr.refl no w5).alloc _
                have hb6 : w6.heap[w5.heap.size]? = some (.cells #[.int .i64 own, .int .i64 next, .slice so sn sc, .slice a0 n0 c0] 26 (0, 0)) := by rw [← hw6]; exact World.alloc_heap_new _ _
                have HW6 := Lib.hid hw6
                have HV6 := Lib.hid hb6
                have hgv0 : w.heap.size ≤ w5.heap.size := HF5.out.size
                have hguv : gu < w5.heap.size := (Array.getElem?_eq_some_iff.1 HU5.out).1
                have Q6 : Hid (RdX (fun g => g = w5.heap.size) w6 1 (.slice uo un uc) un (us.map (Value.int .i64))) := Lib.hid (RdX.fr0' (Rd.x Q1.out (by decide) (fun g e => by omega)) hf6)
                have HU6 := Lib.hid (hf6.heap HU5.out (fun f => f))
                have HF6 := Lib.hid (HF5.out.trans' hf6)
                clear hf6 hb6 hw6 Q1 HU5 HB5 HF5
                go_upto_region 27 with (fail)
                rw [HW6.out]
                clear HW6 t0 t1 t2 t3
                generalize w5.heap.size = gv at *
                have HI0 : Hid (SpI w w6 26 gv own ⟨next, seen, late, 0⟩ (.slice so sn sc) (.slice a0 n0 c0)) := Lib.hid ⟨HV6.out, by rw [Hsn.out]; exact RdX.fr0' (Rd.x (by have := Hs.out; rw [← Hsn.out] at this ⊢; exact this) (by decide) (fun g e => by omega)) HF6.out, by rw [Hn0.out]; exact RdX.fr0' (Rd.x H0.out (by decide) (fun g e => by omega)) HF6.out, HF6.out⟩
                have HN0 : Hid (SpN (late ++ l) ⟨next, seen, late, 0⟩ 0) := Lib.hid ⟨fun d h => List.mem_append.2 (.inl h), (goodP_seen HG.out).1, by have := HG.out.n3; show seen.length ≤ 1000; omega, by have := HG.out.n1; show late.length ≤ 40 + 0; omega, ⟨(goodP_seen HG.out).2.1, by have := HG.out.nx; show next ≤ _; omega⟩, Nat.zero_le _⟩
                clear HV6
                go_wp2_with fail
                go_loopw [15, 16] (fun nv iv wr => ∃ (i m : Nat) (s : SS) (xn : Int) (xo : Option Addr) (xl xc : Nat) (yo : Option Addr) (yl yc : Nat), i ≤ n1 ∧ nv = .int .i64 m ∧ iv = .int .i64 i ∧ m ≤ 4000 ∧ xl ≤ xc ∧ xc ≤ 9223372036854775807 ∧ yl ≤ yc ∧ yc ≤ 9223372036854775807 ∧ Hid ((l.take i).foldl (sstep own) ⟨next, seen, late, 0⟩ = s) ∧ Hid (s.n = m) ∧ Hid (s.next = xn) ∧ Hid (s.seen.length = xl) ∧ Hid (s.late.length = yl) ∧ Hid (SpN (late ++ l) s i) ∧ Hid (SpI w wr 26 gv own s (.slice xo xl xc) (.slice yo yl yc)) ∧ Hid (Fr (fun k => k = gv) w6 wr)) (fun _ iv _ => n1 - (intOf iv).toNat)
                case atStart => exact ⟨0, 0, ⟨next, seen, late, 0⟩, next, so, sn, sc, a0, n0, c0, Nat.zero_le _, rfl, rfl, by omega, by omega, by omega, by omega, by omega, Lib.hid rfl, Lib.hid rfl, Lib.hid rfl, Hsn, Hn0, HN0, HI0, Lib.hid (Fr.refl _ _)⟩
                case round =>
                  obtain ⟨i, m, s, xn, xo, xl, xc, yo, yl, yc, hi, rfl, rfl, hm4, hxc, hxm, hyc, hym, hS, hSn, hSx, hSl, hSy, hN, hI, hL⟩ := hrel
                  generalize wr = P at *
                  clear HN0 HI0
                  by_cases hlt : i < n1
                  · obtain ⟨d, hdk⟩ : ∃ x, l[i]? = some x := ⟨l[i]'(by rw [Hn1.out]; exact hlt), by simp⟩
                    obtain ⟨g, off, c', he, hnc, hcm, hcell⟩ := H1.out.form (by omega)
                    cases he
                    have hdm : d ∈ late ++ l := List.mem_append.2 (.inr (List.mem_of_getElem? hdk))
                    obtain ⟨i0, hi0, hz0, hz1, hz2⟩ := info_parts (show (Try.prog.info? 41).map (fun i => (i.zero, i.size, i.bytes)) = some (some (.agg #[.int .i64 0, .int .i64 0, .int .i64 0, .slice none 0 0, .string ByteArray.empty, .string ByteArray.empty]), 6, 80) by kernel_rfl)
                    have cut1 : ∀ w, (Instr.slice 24 (.slice (some ⟨g, off, none⟩) n1 c1) (some (.int .i64 (i : Int))) (some (.int .i64 ((i : Int) + 1))) none).run Try.prog w = .ok (.slice (some ⟨g, off + i * 6, none⟩) 1 (c1 - i)) w := by
                      intro w
                      have h := run_cut (P := Try.prog) 24 41 i0 6 Try.underlying24 hi0 hz1 ⟨g, off, none⟩ n1 c1 i (i + 1) (by omega) (by omega) w
                      rw [if_neg (by omega), Addr.add_lit, show i + 1 - i = 1 by omega] at h
                      push_cast at h
                      exact h
                    have hlc : (drCells l).length = n1 * 6 := by rw [drCells_len, Hn1.out]
                    have hone : Rd w 6 (.slice (some ⟨g, off + i * 6, none⟩) 1 (c1 - i)) 1 (drCells [d]) := by
                      refine ⟨drCells_len _, _, _, rfl, by omega, by unfold maxLen; omega, by simp, fun _ => ⟨g, off + i * 6, rfl, fun j u hj => ?_⟩⟩
                      rw [Nat.add_assoc]
                      refine hcell (i * 6 + j) u ?_
                      have hj6 : j < 6 := by have := (List.getElem?_eq_some_iff.1 hj).1; rw [drCells_len] at this; simpa using this
                      obtain ⟨d0, d1, d2, d3, d4, d5⟩ := drCells_get l i d hdk
                      obtain ⟨b0, b1, b2, b3, b4, b5⟩ := drCells_get [d] 0 d rfl
                      simp only [Nat.zero_mul, Nat.zero_add] at b0 b1 b2 b3 b4 b5
                      rcases (by omega : j = 0 ∨ j = 1 ∨ j = 2 ∨ j = 3 ∨ j = 4 ∨ j = 5) with rfl | rfl | rfl | rfl | rfl | rfl
                      · rw [← hj, b0]; exact d0
                      · rw [← hj, b1]; exact d1
                      · rw [← hj, b2]; exact d2
                      · rw [← hj, b3]; exact d3
                      · rw [← hj, b4]; exact d4
                      · rw [← hj, b5]; exact d5
                    have hone2 := Rd.fr hone hI.out.fr (fun _ _ _ f => f)
                    obtain ⟨s', hs'⟩ : ∃ s', sstep own s d = s' := ⟨_, rfl⟩
                    obtain ⟨xn', hxn'⟩ : ∃ x, s'.next = x := ⟨_, rfl⟩
                    obtain ⟨xl', hxl'⟩ : ∃ x, s'.seen.length = x := ⟨_, rfl⟩
                    obtain ⟨yl', hyl'⟩ : ∃ x, s'.late.length = x := ⟨_, rfl⟩
                    obtain ⟨om', hom'⟩ : ∃ x, (srun own s d).out.length = x := ⟨_, rfl⟩
                    have hadm2 : ∀ (wc : World), Fr no P wc → Calls Try.prog 17 #[.agg #[.int .i64 own, .int .i64 xn, .slice xo xl xc, .slice yo yl yc], .slice (some ⟨g, off + i * 6, none⟩) 1 (c1 - i)] wc fun e w' => ∃ zo zc vo vc qo qc, e = .returned (.tuple #[.agg #[.int .i64 own, .int .i64 xn', .slice zo xl' zc, .slice vo yl' vc], .slice qo om' qc]) ∧ xl' ≤ zc ∧ zc ≤ 9223372036854775807 ∧ yl' ≤ vc ∧ vc ≤ 9223372036854775807 ∧ om' ≤ qc ∧ qc ≤ 9223372036854775807 ∧
                        SpA w wc w' own s d (.slice zo xl' zc) (.slice vo yl' vc) (.slice qo om' qc) (.slice xo xl xc) ∧ SpN (late ++ l) s' (i + 1) ∧ om' ≤ 100 := fun wc hf => by
                      have h := sp_admit hI.out hN.out HD.out hdm (by omega) hone2 hf
                      rw [hSx.out] at h
                      refine h.mono ?_
                      rintro e w' ⟨sv', lv', ov', rfl, hA, hN', hol⟩
                      obtain ⟨zo, zc, rfl, z1, z2⟩ := hA.seen.cap
                      obtain ⟨vo, vc, rfl, v1, v2⟩ := hA.late.cap
                      obtain ⟨qo, qc, rfl, o1, o2⟩ := hA.out.cap
                      rw [hs'] at hA hN' z1 v1 ⊢
                      rw [hom'] at hA o1 hol ⊢
                      rw [hxl'] at hA z1 ⊢
                      rw [hyl'] at hA v1 ⊢
                      rw [hxn']
                      exact ⟨zo, zc, vo, vc, qo, qc, rfl, z1, z2, v1, v2, o1, o2, hA, hN', hol⟩
                    have hBP : P.heap[gv]? = some (.cells #[.int .i64 own, .int .i64 xn, .slice xo xl xc, .slice yo yl yc] 26 (0, 0)) := by rw [← hSx.out]; exact hI.out.blk
                    have hgP : gv < P.heap.size := (Array.getElem?_eq_some_iff.1 hBP).1
                    have hS' : Hid ((l.take (i + 1)).foldl (sstep own) ⟨next, seen, late, 0⟩ = s') := Lib.hid (by
                      rw [show l.take (i + 1) = l.take i ++ [d] by rw [List.take_add_one, hdk]; simp, List.foldl_append, hS.out]; exact hs')
                    have hSn' : Hid (s'.n = m + om') := Lib.hid (by rw [← hs', ← hom', ← hSn.out]; rfl)
                    have hadd : IntKind.i64.wrap ((i : Int) + 1) = (i : Int) + 1 := IntWalk.i64_in _ (by omega)
                    have Had := Lib.hid hadm2
                    have HBP := Lib.hid hBP
                    have Hs' := Lib.hid hs'
                    have Hxn' := Lib.hid hxn'
                    have Hxl' := Lib.hid hxl'
                    have Hyl' := Lib.hid hyl'
                    clear hdk hcell hdm hi0 hz0 hz1 hz2 hlc hone hone2 hadm2 hBP hs' hxn' hxl' hyl' hom' hS hSn
                    go_upto_region 31 with (fail)
                    go_cut [17, 18] (fun pv bv wx => ∃ (gw : Nat) (zo : Option Addr) (zc : Nat) (vo : Option Addr) (vc : Nat) (qo : Option Addr) (qc : Nat), pv = .pointer (some ⟨gw, 0, none⟩) ∧ bv = .slice qo om' qc ∧ om' ≤ qc ∧ qc ≤ 9223372036854775807 ∧ xl' ≤ zc ∧ zc ≤ 9223372036854775807 ∧ yl' ≤ vc ∧ vc ≤ 9223372036854775807 ∧ om' ≤ 100 ∧ gw ≠ gv ∧
                      Hid (wx.heap[gw]? = some (.cells #[.int .i64 own, .int .i64 xn', .slice zo xl' zc, .slice vo yl' vc] 26 (0, 0))) ∧ Hid (wx.heap[gv]? = some (.cells #[.int .i64 own, .int .i64 xn, .slice xo xl xc, .slice yo yl yc] 26 (0, 0))) ∧
                      Hid (RdX (fun k => k = gv ∨ k = gw) wx 1 (.slice zo xl' zc) s'.seen.length (s'.seen.map (Value.int .i64))) ∧ Hid (RdX (fun k => k = gv ∨ k = gw) wx 6 (.slice vo yl' vc) s'.late.length (drCells s'.late)) ∧ Hid (SpN (late ++ l) s' (i + 1)) ∧ Hid (Fr no P wx))
                    case first =>
                      have y0 := cell_of_block (j := 0) HBP.out rfl
                      have y1 := cell_of_block (j := 1) HBP.out rfl
                      have y2 := cell_of_block (j := 2) HBP.out rfl
                      have y3 := cell_of_block (j := 3) HBP.out rfl
                      obtain ⟨Sg1013_0, HSg1013_0⟩ : ∃ S : World → Prop, Hid (S = (fun w' => w'.cell? ⟨gv, 0, none⟩ = some (.int .i64 own) ∧ w'.cell? ⟨gv, 1, none⟩ = some (.int .i64 xn) ∧ w'.cell? ⟨gv, 2, none⟩ = some (.slice xo xl xc) ∧ w'.cell? ⟨gv, 3, none⟩ = some (.slice yo yl yc))) := ⟨_, Lib.hid rfl⟩
                      refine wp_heldp [] (pickS [Sg1013_0]) (by kernel_rfl) ?_ (fun hHeld => ?_)
                      · show Sg1013_0 _; rw [HSg1013_0.out]; exact ⟨y0, y1, y2, y3⟩
                      obtain ⟨wc, hwc⟩ : ∃ x, P.drew = x := ⟨_, rfl⟩; rw [hwc] at hHeld; rw [hwc]; have HF : Hid (Fr no P wc) := (by rw [← hwc]; exact Lib.hid ((Fr.refl no P).drewN 1)); clear hwc
                      refine heldp_take (v := ?_) 0 0 rfl (by kernel_rfl) (.inl ⟨by rfl, ?_⟩) hHeld ?_
                      rotate_left
                      · intro w hSw; replace hSw : Sg1013_0 w := hSw; rw [HSg1013_0.out] at hSw; (try dsimp only at hSw); first | (go_simp; done) | (go_simp; with_reducible rfl)
                      try simp only [Act.put, List.setIfInBounds_toArray, List.set_cons_zero, List.set_cons_succ]
                      refine heldp_take (v := ?_) 1 0 rfl (by kernel_rfl) (.inl ⟨by rfl, ?_⟩) hHeld ?_
                      rotate_left
                      · intro w hSw; replace hSw : Sg1013_0 w := hSw; rw [HSg1013_0.out] at hSw; (try dsimp only at hSw); first | (go_simp; done) | (go_simp; with_reducible rfl)
                      try simp only [Act.put, List.setIfInBounds_toArray, List.set_cons_zero, List.set_cons_succ]
                      refine heldp_take (v := ?_) 2 0 rfl (by kernel_rfl) (.inl ⟨by rfl, ?_⟩) hHeld ?_
                      rotate_left
                      · intro w hSw; replace hSw : Sg1013_0 w := hSw; rw [HSg1013_0.out] at hSw; (try dsimp only at hSw); first | (go_simp; done) | (go_simp; with_reducible rfl)
                      try simp only [Act.put, List.setIfInBounds_toArray, List.set_cons_zero, List.set_cons_succ]
                      refine heldp_take (v := ?_) 3 0 rfl (by kernel_rfl) (.inl ⟨by rfl, ?_⟩) hHeld ?_
                      rotate_left
                      · intro w hSw; replace hSw : Sg1013_0 w := hSw; rw [HSg1013_0.out] at hSw; (try dsimp only at hSw); first | (go_simp; done) | (go_simp; with_reducible rfl)
                      try simp only [Act.put, List.setIfInBounds_toArray, List.set_cons_zero, List.set_cons_succ]
                      refine heldp_take (v := ?_) 4 0 rfl (by kernel_rfl) (.inl ⟨by rfl, ?_⟩) hHeld ?_
                      rotate_left
                      · intro w hSw; replace hSw : Sg1013_0 w := hSw; rw [HSg1013_0.out] at hSw; (try dsimp only at hSw); first | (go_simp; done) | (go_simp; with_reducible rfl)
                      try simp only [Act.put, List.setIfInBounds_toArray, List.set_cons_zero, List.set_cons_succ]
                      refine heldp_take (v := ?_) 5 0 rfl (by kernel_rfl) (.inl ⟨by rfl, ?_⟩) hHeld ?_
                      rotate_left
                      · intro w hSw; replace hSw : Sg1013_0 w := hSw; rw [HSg1013_0.out] at hSw; (try dsimp only at hSw); first | (go_simp; done) | (go_simp; with_reducible rfl)
                      try simp only [Act.put, List.setIfInBounds_toArray, List.set_cons_zero, List.set_cons_succ]
                      refine heldp_two 6 10 (by kernel_rfl) ?_ ?_
                      · refine heldp_op 6 0 rfl (by kernel_rfl) (fun K hK => ?_)
                        go_simp
                        have HFo := HF
                        try have hgl := (Array.getElem?_eq_some_iff.1 V.out).1
                        go_at_call 17
                        refine (Had.out _ HF.out).mono ?_
                        rintro e wc ⟨zo, zc, vo, vc, qo, qc, rfl, zz1, zz2, vv1, vv2, oo1, oo2, hA, hN', hol⟩
                        replace HF := Lib.hid (HF.out.trans' hA.fr)
                        have HA := Lib.hid hA
                        have HN' := Lib.hid hN'
                        try replace V := Lib.hid (hA.fr.heap V.out (fun f => f))
                        try (have hgl2 := hgl; obtain ⟨hx1, hx2⟩ := sp_apart hI.out HFo.out HA.out hgw (.inl hgl); rw [Hs'.out] at hx1 hx2; have X1 := Lib.hid hx1; have X2 := Lib.hid hx2; clear hx1 hx2)
                        clear hA hN'
                        refine hK.out _ _ ?_ (fun hHeld' => ?_)
                        · show Sg1013_0 _; rw [HSg1013_0.out]; have hq := HF.out; exact ⟨hq.cell y0 (fun f => f), hq.cell y1 (fun f => f), hq.cell y2 (fun f => f), hq.cell y3 (fun f => f)⟩
                        clear hK K hHeld
                        have hHeld := hHeld'
                        clear hHeld'
                        try simp only [Act.put, List.setIfInBounds_toArray, List.set_cons_zero, List.set_cons_succ]
                        refine heldp_take (v := ?_) 7 0 rfl (by kernel_rfl) (.inl ⟨by rfl, ?_⟩) hHeld ?_
                        rotate_left
                        · intro w hSw; replace hSw : Sg1013_0 w := hSw; rw [HSg1013_0.out] at hSw; (try dsimp only at hSw); first | (go_simp; done) | (go_simp; with_reducible rfl)
                        try simp only [Act.put, List.setIfInBounds_toArray, List.set_cons_zero, List.set_cons_succ]
                        refine heldp_take (v := ?_) 8 0 rfl (by kernel_rfl) (.inl ⟨by rfl, ?_⟩) hHeld ?_
                        rotate_left
                        · intro w hSw; replace hSw : Sg1013_0 w := hSw; rw [HSg1013_0.out] at hSw; (try dsimp only at hSw); first | (go_simp; done) | (go_simp; with_reducible rfl)
                        try simp only [Act.put, List.setIfInBounds_toArray, List.set_cons_zero, List.set_cons_succ]
                        refine heldp_take (v := ?_) 9 0 rfl (by kernel_rfl) (.inl ⟨by rfl, ?_⟩) hHeld ?_
                        rotate_left
                        · intro w hSw; replace hSw : Sg1013_0 w := hSw; rw [HSg1013_0.out] at hSw; (try dsimp only at hSw); first | (go_simp; done) | (go_simp; with_reducible rfl)
                        try simp only [Act.put, List.setIfInBounds_toArray, List.set_cons_zero, List.set_cons_succ]
                        refine heldp_call 10 0 rfl (by kernel_rfl) (fun K hK => ?_)
                        go_simp
                        have hfa : Fr no wc (wc.alloc (.cells #[.int .i64 0, .int .i64 0, .slice none 0 0, .slice none 0 0] 26)) := (Fr.refl no wc).alloc _
                        have hba := World.alloc_heap_new wc (.cells #[.int .i64 0, .int .i64 0, .slice none 0 0, .slice none 0 0] 26)
                        obtain ⟨gw, hgg⟩ : ∃ x, wc.heap.size = x := ⟨_, rfl⟩
                        have hgw : P.heap.size ≤ gw := by rw [← hgg]; exact HF.out.size
                        try (have HA2 := HA.out; obtain ⟨hx1, hx2⟩ := sp_apart hI.out HFo.out HA.out hgw (.inr (by omega)); rw [Hs'.out] at hx1 hx2; have X1 := Lib.hid (hx1.fr0' hfa); have X2 := Lib.hid (hx2.fr0' hfa); clear hx1 hx2)
                        obtain ⟨wc, hwc⟩ : ∃ x, wc.alloc (.cells #[.int .i64 0, .int .i64 0, .slice none 0 0, .slice none 0 0] 26) = x := ⟨_, rfl⟩
                        rw [hgg, hwc]
                        rw [hgg, hwc] at hba
                        rw [hwc] at hfa
                        try rw [hwc] at X1
                        try rw [hwc] at X2
                        replace HF := Lib.hid (HF.out.trans' hfa)
                        have V := Lib.hid hba
                        clear hba hfa hwc hgg
                        refine hK.out _ _ ?_ (fun hHeld' => ?_)
                        · show Sg1013_0 _; rw [HSg1013_0.out]; have hq := HF.out; exact ⟨hq.cell y0 (fun f => f), hq.cell y1 (fun f => f), hq.cell y2 (fun f => f), hq.cell y3 (fun f => f)⟩
                        clear hK K hHeld
                        have hHeld := hHeld'
                        clear hHeld'
                        try simp only [Act.put, List.setIfInBounds_toArray, List.set_cons_zero, List.set_cons_succ]
                        refine heldp_call 11 0 rfl (by kernel_rfl) (fun K hK => ?_)
                        rw [if_pos (by rfl)]
                        obtain ⟨x1, x2, x3, x4, q1, q2, q3, q4, r1, r2, r3, r4, z1, z2, z3, z4, hb4, hf4⟩ := set4 V.out (.int .i64 own) (.int .i64 xn') (.slice zo xl' zc) (.slice vo yl' vc)
                        have T2 := Lib.hid hb4
                        have hgb : gw ≠ gv := by omega
                        replace X1 := Lib.hid (X1.out.fr hf4 (fun k _ e => .inr e))
                        replace X2 := Lib.hid (X2.out.fr hf4 (fun k _ e => .inr e))
                        replace HF := Lib.hid (HF.out.trans hf4 (fun j hj e => by omega))
                        clear hb4 hf4
                        go_simp
                        refine hK.out _ _ ?_ (fun hHeld' => ?_)
                        · show Sg1013_0 _; rw [HSg1013_0.out]; have hq := HF.out; exact ⟨hq.cell y0 (fun f => f), hq.cell y1 (fun f => f), hq.cell y2 (fun f => f), hq.cell y3 (fun f => f)⟩
                        clear hK K hHeld
                        have hHeld := hHeld'
                        clear hHeld'
                        try simp only [Act.put, List.setIfInBounds_toArray, List.set_cons_zero, List.set_cons_succ]
                        refine heldp_take (v := ?_) 12 0 rfl (by kernel_rfl) (.inl ⟨by rfl, ?_⟩) hHeld ?_
                        rotate_left
                        · intro w hSw; replace hSw : Sg1013_0 w := hSw; rw [HSg1013_0.out] at hSw; (try dsimp only at hSw); first | (go_simp; done) | (go_simp; with_reducible rfl)
                        try simp only [Act.put, List.setIfInBounds_toArray, List.set_cons_zero, List.set_cons_succ]
                        refine heldp_done (by kernel_rfl) ?_
                        try clear hHeld
                        clear HSg1013_0
                        try clear Sg1013_0
                        clear q1 q2 q3 q4 r1 r2 r3 r4 z1 z2 z3 z4
                        have B3 := Lib.hid (HF.out.heap HBP.out (fun f => f))
                        clear y0 y1 y2 y3
                        go_wp2
                        go_meet
                        exact ⟨gw, zo, zc, vo, vc, qo, qc, rfl, rfl, oo1, oo2, zz1, zz2, vv1, vv2, hol, hgb, T2, B3, X1, X2, HN', HF⟩
                      · refine heldp_op 10 0 rfl (by kernel_rfl) (fun K hK => ?_)
                        go_simp
                        have hfa : Fr no wc (wc.alloc (.cells #[.int .i64 0, .int .i64 0, .slice none 0 0, .slice none 0 0] 26)) := (Fr.refl no wc).alloc _
                        have hba := World.alloc_heap_new wc (.cells #[.int .i64 0, .int .i64 0, .slice none 0 0, .slice none 0 0] 26)
                        obtain ⟨gw, hgg⟩ : ∃ x, wc.heap.size = x := ⟨_, rfl⟩
                        have hgw : P.heap.size ≤ gw := by rw [← hgg]; exact HF.out.size
                        try (have HA2 := HA.out; obtain ⟨hx1, hx2⟩ := sp_apart hI.out HFo.out HA.out hgw (.inr (by omega)); rw [Hs'.out] at hx1 hx2; have X1 := Lib.hid (hx1.fr0' hfa); have X2 := Lib.hid (hx2.fr0' hfa); clear hx1 hx2)
                        obtain ⟨wc, hwc⟩ : ∃ x, wc.alloc (.cells #[.int .i64 0, .int .i64 0, .slice none 0 0, .slice none 0 0] 26) = x := ⟨_, rfl⟩
                        rw [hgg, hwc]
                        rw [hgg, hwc] at hba
                        rw [hwc] at hfa
                        try rw [hwc] at X1
                        try rw [hwc] at X2
                        replace HF := Lib.hid (HF.out.trans' hfa)
                        have V := Lib.hid hba
                        clear hba hfa hwc hgg
                        refine hK.out _ _ ?_ (fun hHeld' => ?_)
                        · show Sg1013_0 _; rw [HSg1013_0.out]; have hq := HF.out; exact ⟨hq.cell y0 (fun f => f), hq.cell y1 (fun f => f), hq.cell y2 (fun f => f), hq.cell y3 (fun f => f)⟩
                        clear hK K hHeld
                        have hHeld := hHeld'
                        clear hHeld'
                        try simp only [Act.put, List.setIfInBounds_toArray, List.set_cons_zero, List.set_cons_succ]
                        refine heldp_call 6 0 rfl (by kernel_rfl) (fun K hK => ?_)
                        go_simp
                        have HFo := HF
                        try have hgl := (Array.getElem?_eq_some_iff.1 V.out).1
                        go_at_call 17
                        refine (Had.out _ HF.out).mono ?_
                        rintro e wc ⟨zo, zc, vo, vc, qo, qc, rfl, zz1, zz2, vv1, vv2, oo1, oo2, hA, hN', hol⟩
                        replace HF := Lib.hid (HF.out.trans' hA.fr)
                        have HA := Lib.hid hA
                        have HN' := Lib.hid hN'
                        try replace V := Lib.hid (hA.fr.heap V.out (fun f => f))
                        try (have hgl2 := hgl; obtain ⟨hx1, hx2⟩ := sp_apart hI.out HFo.out HA.out hgw (.inl hgl); rw [Hs'.out] at hx1 hx2; have X1 := Lib.hid hx1; have X2 := Lib.hid hx2; clear hx1 hx2)
                        clear hA hN'
                        refine hK.out _ _ ?_ (fun hHeld' => ?_)
                        · show Sg1013_0 _; rw [HSg1013_0.out]; have hq := HF.out; exact ⟨hq.cell y0 (fun f => f), hq.cell y1 (fun f => f), hq.cell y2 (fun f => f), hq.cell y3 (fun f => f)⟩
                        clear hK K hHeld
                        have hHeld := hHeld'
                        clear hHeld'
                        try simp only [Act.put, List.setIfInBounds_toArray, List.set_cons_zero, List.set_cons_succ]
                        refine heldp_take (v := ?_) 7 0 rfl (by kernel_rfl) (.inl ⟨by rfl, ?_⟩) hHeld ?_
                        rotate_left
                        · intro w hSw; replace hSw : Sg1013_0 w := hSw; rw [HSg1013_0.out] at hSw; (try dsimp only at hSw); first | (go_simp; done) | (go_simp; with_reducible rfl)
                        try simp only [Act.put, List.setIfInBounds_toArray, List.set_cons_zero, List.set_cons_succ]
                        refine heldp_take (v := ?_) 8 0 rfl (by kernel_rfl) (.inl ⟨by rfl, ?_⟩) hHeld ?_
                        rotate_left
                        · intro w hSw; replace hSw : Sg1013_0 w := hSw; rw [HSg1013_0.out] at hSw; (try dsimp only at hSw); first | (go_simp; done) | (go_simp; with_reducible rfl)
                        try simp only [Act.put, List.setIfInBounds_toArray, List.set_cons_zero, List.set_cons_succ]
                        refine heldp_take (v := ?_) 9 0 rfl (by kernel_rfl) (.inl ⟨by rfl, ?_⟩) hHeld ?_
                        rotate_left
                        · intro w hSw; replace hSw : Sg1013_0 w := hSw; rw [HSg1013_0.out] at hSw; (try dsimp only at hSw); first | (go_simp; done) | (go_simp; with_reducible rfl)
                        try simp only [Act.put, List.setIfInBounds_toArray, List.set_cons_zero, List.set_cons_succ]
                        refine heldp_call 11 0 rfl (by kernel_rfl) (fun K hK => ?_)
                        rw [if_pos (by rfl)]
                        obtain ⟨x1, x2, x3, x4, q1, q2, q3, q4, r1, r2, r3, r4, z1, z2, z3, z4, hb4, hf4⟩ := set4 V.out (.int .i64 own) (.int .i64 xn') (.slice zo xl' zc) (.slice vo yl' vc)
                        have T2 := Lib.hid hb4
                        have hgb : gw ≠ gv := by omega
                        replace X1 := Lib.hid (X1.out.fr hf4 (fun k _ e => .inr e))
                        replace X2 := Lib.hid (X2.out.fr hf4 (fun k _ e => .inr e))
                        replace HF := Lib.hid (HF.out.trans hf4 (fun j hj e => by omega))
                        clear hb4 hf4
                        go_simp
                        refine hK.out _ _ ?_ (fun hHeld' => ?_)
                        · show Sg1013_0 _; rw [HSg1013_0.out]; have hq := HF.out; exact ⟨hq.cell y0 (fun f => f), hq.cell y1 (fun f => f), hq.cell y2 (fun f => f), hq.cell y3 (fun f => f)⟩
                        clear hK K hHeld
                        have hHeld := hHeld'
                        clear hHeld'
                        try simp only [Act.put, List.setIfInBounds_toArray, List.set_cons_zero, List.set_cons_succ]
                        refine heldp_take (v := ?_) 12 0 rfl (by kernel_rfl) (.inl ⟨by rfl, ?_⟩) hHeld ?_
                        rotate_left
                        · intro w hSw; replace hSw : Sg1013_0 w := hSw; rw [HSg1013_0.out] at hSw; (try dsimp only at hSw); first | (go_simp; done) | (go_simp; with_reducible rfl)
                        try simp only [Act.put, List.setIfInBounds_toArray, List.set_cons_zero, List.set_cons_succ]
                        refine heldp_done (by kernel_rfl) ?_
                        try clear hHeld
                        clear HSg1013_0
                        try clear Sg1013_0
                        clear q1 q2 q3 q4 r1 r2 r3 r4 z1 z2 z3 z4
                        have B3 := Lib.hid (HF.out.heap HBP.out (fun f => f))
                        clear y0 y1 y2 y3
                        go_wp2
                        go_meet
                        exact ⟨gw, zo, zc, vo, vc, qo, qc, rfl, rfl, oo1, oo2, zz1, zz2, vv1, vv2, hol, hgb, T2, B3, X1, X2, HN', HF⟩
                    case rest =>
                      obtain ⟨gw, zo, zc, vo, vc, qo, qc, rfl, rfl, oo1, oo2, zz1, zz2, vv1, vv2, hol, hgb, T2, B3, X1, X2, HN', HF⟩ := hcut
                      clear cut1 hadd Had HBP
                      generalize wc = V at *
                      have hu0 := cell_of_block (j := 0) T2.out rfl
                      have hu1 := cell_of_block (j := 1) T2.out rfl
                      have hu2 := cell_of_block (j := 2) T2.out rfl
                      have hu3 := cell_of_block (j := 3) T2.out rfl
                      obtain ⟨x1, x2, x3, x4, q1, q2, q3, q4, r1, r2, r3, r4, z1, z2, z3, z4, hb4, hf4⟩ := set4 B3.out (.int .i64 own) (.int .i64 xn') (.slice zo xl' zc) (.slice vo yl' vc)
                      have HI' : Hid (SpI w x4 26 gv own s' (.slice zo xl' zc) (.slice vo yl' vc)) := Lib.hid (sp_next (gw := gw) hI.out hgv0 X1.out X2.out HF.out (by rw [Hxn'.out]; exact hb4) hf4)
                      have HL' : Hid (Fr (fun k => k = gv) w6 x4) := Lib.hid ((hL.out.trans (HF.out) (fun _ _ f => f.elim)).trans' hf4)
                      have hmm : m + om' ≤ 4000 := by have := HN'.out.nn; have := hSn'.out; omega
                      clear hb4 hf4
                      go_wp2
                      go_roundw
                      case rel => exact ⟨i + 1, m + om', s', xn', zo, xl', zc, vo, yl', vc, by omega, by go_num, by go_num, hmm, zz1, zz2, vv1, vv2, hS', hSn', Hxn', Hxl', Hyl', HN', HI', HL'⟩
                      case measure => simp [intOf]; omega
                  · have hin : i = n1 := by omega
                    have hLt : Hid (l.foldl (sstep own) ⟨next, seen, late, 0⟩ = s) := Lib.hid (by have := hS.out; rw [show i = l.length by rw [Hn1.out]; exact hin, List.take_length] at this; exact this)
                    clear hin hS
                    by_cases hz : n1 = 0
                    · have hzb : ((n1 : Int) == 0) = true := by rw [hz]; rfl
                      clear hz
                      go_wp2
                      go_ret
                      exact ⟨rfl, hI.out.fr⟩
                    · have hzb : ((n1 : Int) == 0) = false := by simpa using hz
                      have hls : l ≠ [] := fun e => hz (by rw [← Hn1.out, e]; rfl)
                      obtain ⟨p1, p2, p3, p4⟩ := split_same (own := own) (next := next) (seen := seen) (late := late) (l := l) (n := NN) hls (by rw [Hn0.out, Hn1.out, HNN.out]; exact Nat.le_refl _) (fun d hd => (HD.out d hd).2.1) (told_cov (by rw [Hall.out]; exact HTold.out)) R HR.out s hLt.out
                      rw [Hout.out, Hom.out, hSn.out] at p1
                      rw [Hnx.out, hSx.out] at p3
                      rw [Hla.out, Hln.out, hSy.out] at p4
                      rw [Hus.out] at p2
                      subst p1 p3 p4
                      have hsame := fun (w' : World) (hf : Fr no P w') => ref_same (.slice uo un uc) (.slice xo xl xc) us s.seen w' (by show Rd w' 1 _ us.length _; rw [Hun.out]; exact (Q6.out.fr hL.out (fun g _ e => e)).rd.fr hf (fun _ _ _ f => f)) (hI.out.seen.rd.fr hf (fun _ _ _ f => f))
                      rw [p2] at hsame
                      have Hsame := Lib.hid hsame
                      have HUP := Lib.hid (hL.out.heap HU6.out (by omega))
                      have HBP : Hid (P.heap[gv]? = some (.cells #[.int .i64 own, .int .i64 nx, .slice xo xl xc, .slice yo ln yc] 26 (0, 0))) := Lib.hid (by rw [← hSx.out]; exact hI.out.blk)
                      have y1 := cell_of_block (j := 1) HBP.out rfl
                      have y2 := cell_of_block (j := 2) HBP.out rfl
                      have y3 := cell_of_block (j := 3) HBP.out rfl
                      have v1 := cell_of_block (j := 1) HUP.out rfl
                      have v2 := cell_of_block (j := 2) HUP.out rfl
                      have v3 := cell_of_block (j := 3) HUP.out rfl
                      clear hsame p2 hls hz
                      go_wp2_with fail
                      refine (Hsame.out _ (Fr.refl _ _)).mono ?_
                      rintro e w' ⟨rfl, rfl⟩
                      go_wp2
                      go_ret
                      exact ⟨rfl, hI.out.fr⟩
end Go.Proofs.Ytdddgfienicaaaa
