/- The laws' own words for vectors: known, up, few. -/
import Derived.Test.YtdepenibifbcpaaGreatDoorVecP
import Derived.Test.YtdepenibifbcpaaGreatDoorPairs
namespace Go.XL
open Go.RowKit Go.Shelf
set_option linter.unusedVariables false
set_option linter.unusedSimpArgs false
theorem Ow.see {w w' : World} {E : TypeId} {v : Value} {xs : List Int} (h : Made E w w' v xs) : ∃ ao cap, v = .slice ao xs.length cap ∧ xs.length ≤ cap ∧ cap ≤ 9223372036854775807 ∧ IntsAt w' (.slice ao xs.length cap) xs ∧ Fr no w w' := by
  obtain ⟨ao, cap, rfl, h1, h2⟩ := h.cap
  exact ⟨ao, cap, rfl, h1, h2, h.rd, h.fr⟩
theorem rd_nil (w : World) (size : Nat) : Rd w size (.slice none 0 0) 0 [] := (Sl.nil w 0 size).rd
theorem bstr (l : List UInt8) (r : ByteArray) (h : ⟨l.toArray⟩ = r) : (r.toList == l) = true := by rw [← h, ByteArray.toList_eq]; simp
end Go.XL
namespace Go.Proofs.YtdepenibifbcpaaGreatDoor
open Go.RowKit Go.Shelf Go.XL
set_option linter.unusedVariables false
set_option linter.unusedSimpArgs false
attribute [local go_sem] Oper.semAt_some
theorem text_352 : vtext [3, 5, 2] = [91, 51, 32, 53, 32, 50, 93] := by simp [vtext, vlast, vallF, wjoin, Lib.itoa, Lib.decDigits_one]
theorem text_1 : vtext [1, 0, 0] = [91, 49, 93] := by simp [vtext, vlast, vallF, wjoin, Lib.itoa, Lib.decDigits_one]
theorem text_0 : vtext [] = [91, 93] := by simp [vtext, vlast, vallF, wjoin]
theorem text_1507 : vtext [1, 5, 0, 7] = [91, 49, 32, 53, 32, 48, 32, 55, 93] := by simp [vtext, vlast, vallF, wjoin, Lib.itoa, Lib.decDigits_one]
theorem parse_302 : vparse [91, 51, 32, 48, 32, 50, 93] = ([3, 0, 2], 0) := by decide
theorem parse_30 : vparse [91, 51, 32, 48, 93] = ([], 2) := by decide
/-- the iterator of a vector, as it lies in memory -/
theorem all_each (c : Nat) (v : Value) (xs : List Int) : EachD Fence.wide 2 Tryz.prog 45 #[.pointer (some ⟨c, 0, none⟩)] encP (fun W => W.cell? ⟨c, 0, none⟩ = some v ∧ IntsAt W v xs) (vallF xs 0) := by
  have h := all_iter c v xs
  intro l J Jx W hJ hPre hstep
  refine (h l J Jx W hJ hPre (fun s W x s' W1 hs ⟨e1, e2⟩ => hstep s W x s' W1 hs ⟨e1, 0, by rw [← e2]; rfl⟩)).mono ?_
  rintro e W' ⟨he, hd⟩
  refine ⟨he, ?_⟩
  rcases hd with ⟨s, W2, h1, h2, h3⟩ | h
  · exact .inl ⟨s, W2, h1, h2, 0, by rw [← h3]; rfl⟩
  · exact .inr h
set_option maxRecDepth 100000 in
set_option maxHeartbeats 4000000 in
theorem vknown (w : World) (hG : Gl w) : Calls Tryz.prog 6 #[] w fun e w' => e = .returned (.bool true) ∧ Fr no w w' := by
  obtain ⟨w2, hw2⟩ : ∃ w2, (w.alloc (.cells #[.int .i64 3, .int .i64 0, .int .i64 2] 3)).alloc (.cells #[.int .i64 1, .int .i64 5] 3) = w2 := ⟨_, rfl⟩
  have hf2 : Fr no w w2 := by rw [← hw2]; exact ((Fr.refl no w).alloc _).alloc _
  have ha : IntsAt w2 (.slice (some ⟨w.heap.size, 0, none⟩) 3 3) [3, 0, 2] := by
    rw [← hw2]
    exact Rd.fr (rd_lit w 3 [.int .i64 3, .int .i64 0, .int .i64 2] (by decide)) ((Fr.refl no _).alloc _) (fun _ _ _ f => f)
  have hb : IntsAt w2 (.slice (some ⟨w.heap.size + 1, 0, none⟩) 2 2) [1, 5] := by
    rw [← hw2]
    have := rd_lit (w.alloc (.cells #[.int .i64 3, .int .i64 0, .int .i64 2] 3)) 3 [.int .i64 1, .int .i64 5] (by decide)
    rw [World.size_alloc] at this
    exact this
  have HW2 := Lib.hid hw2
  have HF2 := Lib.hid hf2
  have HA := Lib.hid ha
  have HB := Lib.hid hb
  have HG := Lib.hid hG
  clear hw2 hf2 ha hb hG
  go_enter Tryz.func6, Tryz.ntmps6
  go_upto_region 3 with (fail)
  rw [HW2.out]
  clear HW2
  generalize w.heap.size = ga at *
  have F := Lib.hid (Fr.refl no w2)
  go_wp2_with fail
  have hc := vec_join (.slice (some ⟨ga, 0, none⟩) 3 3) (.slice (some ⟨ga + 1, 0, none⟩) 2 2) [3, 0, 2] [1, 5] w2 (HA.out.fr F.out (fun _ _ _ f => f)) (HB.out.fr F.out (fun _ _ _ f => f)) (by decide) (by decide)
  rw [show vboth max [3, 0, 2] [1, 5] = [3, 5, 2] by decide] at hc
  refine hc.mono ?_
  clear hc
  rintro e w3 ⟨v', rfl, hm⟩
  obtain ⟨aoj, acj, rfl, hm1, hm2, hm3, hm4⟩ := hm.see
  replace F := Lib.hid (F.out.trans' hm4)
  have Rj : Hid (IntsAt _ (.slice aoj 3 acj) [3, 5, 2]) := Lib.hid hm3
  clear hm hm3 hm4
  go_wp2_with fail
  have hc := vec_meet (.slice (some ⟨ga, 0, none⟩) 3 3) (.slice (some ⟨ga + 1, 0, none⟩) 2 2) [3, 0, 2] [1, 5] w3 (HA.out.fr F.out (fun _ _ _ f => f)) (HB.out.fr F.out (fun _ _ _ f => f)) (by decide) (by decide)
  rw [show vboth min [3, 0, 2] [1, 5] = [1, 0, 0] by decide] at hc
  refine hc.mono ?_
  clear hc
  rintro e w4 ⟨v', rfl, hm⟩
  obtain ⟨aom, acm, rfl, hm1, hm2, hm3, hfd⟩ := hm.see
  replace F := Lib.hid (F.out.trans' hfd)
  replace Rj := Lib.hid (Rj.out.fr hfd (fun _ _ _ f => f))
  have Rm : Hid (IntsAt _ (.slice aom 3 acm) [1, 0, 0]) := Lib.hid hm3
  clear hm hm3 hfd
  go_wp2_with fail
  have hc := vec_parse ⟨#[91, 51, 32, 48, 32, 50, 93]⟩ w4 (by decide) (HG.out.fr (HF2.out.trans' F.out))
  rw [show vparse (⟨#[91, 51, 32, 48, 32, 50, 93]⟩ : ByteArray).data.toList = ([3, 0, 2], 0) from parse_302] at hc
  refine hc.mono ?_
  clear hc
  rintro e w5 ⟨v', rfl, hm⟩
  obtain ⟨aop, acp, rfl, hm1, hm2, hm3, hfd⟩ := hm.see
  replace F := Lib.hid (F.out.trans' hfd)
  replace Rj := Lib.hid (Rj.out.fr hfd (fun _ _ _ f => f))
  replace Rm := Lib.hid (Rm.out.fr hfd (fun _ _ _ f => f))
  have Rp : Hid (IntsAt _ (.slice aop 3 acp) [3, 0, 2]) := Lib.hid hm3
  clear hm hm3 hfd
  go_wp2_with fail
  have hc := vec_parse ⟨#[91, 51, 32, 48, 93]⟩ w5 (by decide) (HG.out.fr (HF2.out.trans' F.out))
  rw [show vparse (⟨#[91, 51, 32, 48, 93]⟩ : ByteArray).data.toList = ([], 2) from parse_30] at hc
  refine hc.mono ?_
  clear hc
  rintro e w6 ⟨v', rfl, hm⟩
  obtain ⟨aoz, acz, rfl, hm1, hm2, hm3, hfd⟩ := hm.see
  replace F := Lib.hid (F.out.trans' hfd)
  replace Rj := Lib.hid (Rj.out.fr hfd (fun _ _ _ f => f))
  replace Rm := Lib.hid (Rm.out.fr hfd (fun _ _ _ f => f))
  replace Rp := Lib.hid (Rp.out.fr hfd (fun _ _ _ f => f))
  clear hm hm3 hfd
  go_wp2_with fail
  have hc := vec_all (some ⟨ga, 0, none⟩) 3 3 w6
  refine hc.mono ?_
  clear hc
  rintro e w7 ⟨rfl, hw⟩
  have hfd : Fr no w6 w7 := by rw [← hw]; exact (Fr.refl no _).alloc _
  have hbx : w7.heap[w6.heap.size]? = some (.cells #[(.slice (some ⟨ga, 0, none⟩) 3 3)] 28 (0, 0)) := by rw [← hw]; exact World.alloc_heap_new _ _
  have BX := Lib.hid hbx
  replace F := Lib.hid (F.out.trans' hfd)
  replace Rj := Lib.hid (Rj.out.fr hfd (fun _ _ _ f => f))
  replace Rm := Lib.hid (Rm.out.fr hfd (fun _ _ _ f => f))
  replace Rp := Lib.hid (Rp.out.fr hfd (fun _ _ _ f => f))
  clear hw hfd hbx
  generalize w6.heap.size = gx at *
  go_wp2_with fail
  have hc := law_pairs (Pre := fun W => W.cell? ⟨gx, 0, none⟩ = some (.slice (some ⟨ga, 0, none⟩) 3 3) ∧ IntsAt W (.slice (some ⟨ga, 0, none⟩) 3 3) [3, 0, 2]) (vallF [3, 0, 2] 0) 9 w7 (all_not_nil ⟨gx, 0, none⟩) (enters_of Tryz.func45 (by kernel_rfl) rfl) (all_each gx (.slice (some ⟨ga, 0, none⟩) 3 3) [3, 0, 2]) (fun W hf => ⟨cell_of_block (hf.heap BX.out (fun f => f)) rfl, HA.out.fr (F.out.trans' hf) (fun _ _ _ f => f)⟩) (by decide) (by decide)
  rw [show vallF [3, 0, 2] 0 = [(0, 3), (2, 2)] by decide] at hc
  refine hc.mono ?_
  clear hc
  rintro e w8 ⟨aox, acx, aoy, acy, rfl, hx, hy, hfd, _⟩
  replace F := Lib.hid (F.out.trans' hfd)
  replace Rj := Lib.hid (Rj.out.fr hfd (fun _ _ _ f => f))
  replace Rm := Lib.hid (Rm.out.fr hfd (fun _ _ _ f => f))
  replace Rp := Lib.hid (Rp.out.fr hfd (fun _ _ _ f => f))
  have hxr : Rd _ 1 (.slice aox 2 acx) 2 ([0, 2].map (Value.int .i64)) := hx
  have hyr : Rd _ 1 (.slice aoy 2 acy) 2 ([3, 2].map (Value.int .i64)) := hy
  have Rx := Lib.hid hxr
  have Ry := Lib.hid hyr
  clear hx hy hxr hyr hfd BX
  go_wp2_with fail
  have hfl : Fr no w8 (w8.alloc (.cells #[.int .i64 0, .int .i64 2] 3)) := (Fr.refl no _).alloc _
  have hc := law_ints (.slice aox 2 acx) (.slice (some ⟨w8.heap.size, 0, none⟩) 2 2) ([0, 2] : List Int) ([0, 2] : List Int) (w8.alloc (.cells #[.int .i64 0, .int .i64 2] 3)) (Rx.out.fr hfl (fun _ _ _ f => f)) (rd_lit w8 3 [.int .i64 0, .int .i64 2] (by decide))
  rw [show decide (([0, 2] : List Int) = ([0, 2] : List Int)) = true by decide] at hc
  refine hc.mono ?_
  clear hc
  rintro e w9 ⟨rfl, hfe⟩
  have hfd := hfl.trans' hfe
  replace F := Lib.hid (F.out.trans' hfd)
  replace Rj := Lib.hid (Rj.out.fr hfd (fun _ _ _ f => f))
  replace Rm := Lib.hid (Rm.out.fr hfd (fun _ _ _ f => f))
  replace Rp := Lib.hid (Rp.out.fr hfd (fun _ _ _ f => f))
  replace Rx := Lib.hid (Rx.out.fr hfd (fun _ _ _ f => f))
  replace Ry := Lib.hid (Ry.out.fr hfd (fun _ _ _ f => f))
  clear hfl hfe hfd
  go_wp2_with fail
  have hfl : Fr no w9 (w9.alloc (.cells #[.int .i64 3, .int .i64 2] 3)) := (Fr.refl no _).alloc _
  have hc := law_ints (.slice aoy 2 acy) (.slice (some ⟨w9.heap.size, 0, none⟩) 2 2) ([3, 2] : List Int) ([3, 2] : List Int) (w9.alloc (.cells #[.int .i64 3, .int .i64 2] 3)) (Ry.out.fr hfl (fun _ _ _ f => f)) (rd_lit w9 3 [.int .i64 3, .int .i64 2] (by decide))
  rw [show decide (([3, 2] : List Int) = ([3, 2] : List Int)) = true by decide] at hc
  refine hc.mono ?_
  clear hc
  rintro e w10 ⟨rfl, hfe⟩
  have hfd := hfl.trans' hfe
  replace F := Lib.hid (F.out.trans' hfd)
  replace Rj := Lib.hid (Rj.out.fr hfd (fun _ _ _ f => f))
  replace Rm := Lib.hid (Rm.out.fr hfd (fun _ _ _ f => f))
  replace Rp := Lib.hid (Rp.out.fr hfd (fun _ _ _ f => f))
  replace Rx := Lib.hid (Rx.out.fr hfd (fun _ _ _ f => f))
  replace Ry := Lib.hid (Ry.out.fr hfd (fun _ _ _ f => f))
  clear hfl hfe hfd
  go_wp2_with fail
  have hc := vec_text (.slice aoj 3 acj) [3, 5, 2] w10 Rj.out (by intro x hx; simp at hx <;> omega) (by decide) (HG.out.fr (HF2.out.trans' F.out))
  rw [text_352] at hc
  obtain ⟨r1, hr1⟩ : ∃ r : ByteArray, ⟨([91, 51, 32, 53, 32, 50, 93] : List UInt8).toArray⟩ = r := ⟨_, rfl⟩
  rw [hr1] at hc
  have q1 := bstr _ _ hr1
  refine hc.mono ?_
  clear hc hr1
  rintro e w11 ⟨rfl, hfd⟩
  replace F := Lib.hid (F.out.trans' hfd)
  replace Rj := Lib.hid (Rj.out.fr hfd (fun _ _ _ f => f))
  replace Rm := Lib.hid (Rm.out.fr hfd (fun _ _ _ f => f))
  replace Rp := Lib.hid (Rp.out.fr hfd (fun _ _ _ f => f))
  replace Rx := Lib.hid (Rx.out.fr hfd (fun _ _ _ f => f))
  replace Ry := Lib.hid (Ry.out.fr hfd (fun _ _ _ f => f))
  clear hfd
  go_wp2_with fail
  have hc := vec_text (.slice aom 3 acm) [1, 0, 0] w11 Rm.out (by intro x hx; simp at hx <;> omega) (by decide) (HG.out.fr (HF2.out.trans' F.out))
  rw [text_1] at hc
  obtain ⟨r2, hr2⟩ : ∃ r : ByteArray, ⟨([91, 49, 93] : List UInt8).toArray⟩ = r := ⟨_, rfl⟩
  rw [hr2] at hc
  have q2 := bstr _ _ hr2
  refine hc.mono ?_
  clear hc hr2
  rintro e w12 ⟨rfl, hfd⟩
  replace F := Lib.hid (F.out.trans' hfd)
  replace Rj := Lib.hid (Rj.out.fr hfd (fun _ _ _ f => f))
  replace Rm := Lib.hid (Rm.out.fr hfd (fun _ _ _ f => f))
  replace Rp := Lib.hid (Rp.out.fr hfd (fun _ _ _ f => f))
  replace Rx := Lib.hid (Rx.out.fr hfd (fun _ _ _ f => f))
  replace Ry := Lib.hid (Ry.out.fr hfd (fun _ _ _ f => f))
  clear hfd
  go_wp2_with fail
  have hc := vec_text (.slice none 0 0) [] w12 (rd_nil _ 1) (by intro x hx; simp at hx <;> omega) (by decide) (HG.out.fr (HF2.out.trans' F.out))
  rw [text_0] at hc
  obtain ⟨r3, hr3⟩ : ∃ r : ByteArray, ⟨([91, 93] : List UInt8).toArray⟩ = r := ⟨_, rfl⟩
  rw [hr3] at hc
  have q3 := bstr _ _ hr3
  refine hc.mono ?_
  clear hc hr3
  rintro e w13 ⟨rfl, hfd⟩
  replace F := Lib.hid (F.out.trans' hfd)
  replace Rj := Lib.hid (Rj.out.fr hfd (fun _ _ _ f => f))
  replace Rm := Lib.hid (Rm.out.fr hfd (fun _ _ _ f => f))
  replace Rp := Lib.hid (Rp.out.fr hfd (fun _ _ _ f => f))
  replace Rx := Lib.hid (Rx.out.fr hfd (fun _ _ _ f => f))
  replace Ry := Lib.hid (Ry.out.fr hfd (fun _ _ _ f => f))
  clear hfd
  go_wp2_with fail
  have hc := vec_same (.slice aop 3 acp) (.slice (some ⟨ga, 0, none⟩) 3 3) [3, 0, 2] [3, 0, 2] w13 Rp.out (HA.out.fr F.out (fun _ _ _ f => f))
  rw [show (vcov [3, 0, 2] [3, 0, 2] && vcov [3, 0, 2] [3, 0, 2]) = true by decide] at hc
  refine hc.mono ?_
  clear hc
  rintro e w' ⟨rfl, rfl⟩
  go_wp2_with fail
  have hc := vec_covers (.slice aoj 3 acj) (.slice (some ⟨ga, 0, none⟩) 3 3) [3, 5, 2] [3, 0, 2] w13 Rj.out (HA.out.fr F.out (fun _ _ _ f => f))
  rw [show vcov [3, 5, 2] [3, 0, 2] = true by decide] at hc
  refine hc.mono ?_
  clear hc
  rintro e w' ⟨rfl, rfl⟩
  go_wp2_with fail
  have hc := vec_covers (.slice (some ⟨ga, 0, none⟩) 3 3) (.slice (some ⟨ga + 1, 0, none⟩) 2 2) [3, 0, 2] [1, 5] w13 (HA.out.fr F.out (fun _ _ _ f => f)) (HB.out.fr F.out (fun _ _ _ f => f))
  rw [show vcov [3, 0, 2] [1, 5] = false by decide] at hc
  refine hc.mono ?_
  clear hc
  rintro e w' ⟨rfl, rfl⟩
  go_wp2_with fail
  have hc := vec_get (.slice (some ⟨ga, 0, none⟩) 3 3) [3, 0, 2] 9 w13 (HA.out.fr F.out (fun _ _ _ f => f))
  rw [show vget [3, 0, 2] 9 = 0 by decide] at hc
  refine hc.mono ?_
  clear hc
  rintro e w' ⟨rfl, rfl⟩
  go_wp2_with fail
  have hc := vec_sum (.slice (some ⟨ga, 0, none⟩) 3 3) [3, 0, 2] w13 (HA.out.fr F.out (fun _ _ _ f => f)) (by intro x hx; simp at hx <;> omega) (by decide)
  rw [show vsum [3, 0, 2] = 5 by decide] at hc
  refine hc.mono ?_
  clear hc
  rintro e w14 ⟨rfl, hfd⟩
  replace F := Lib.hid (F.out.trans' hfd)
  clear hfd
  clear Rj Rm Rp Rx Ry
  go_wp2_with fail
  have hc := vec_with (.slice (some ⟨ga + 1, 0, none⟩) 2 2) [1, 5] 3 7 w14 (HB.out.fr F.out (fun _ _ _ f => f)) (by decide)
  rw [show vwith [1, 5] 3 7 = [1, 5, 0, 7] by decide] at hc
  refine hc.mono ?_
  clear hc
  rintro e w15 ⟨v', rfl, hm⟩
  obtain ⟨aoq, acq, rfl, hm1, hm2, hm3, hfd⟩ := hm.see
  replace F := Lib.hid (F.out.trans' hfd)
  have Rq : Hid (IntsAt _ (.slice aoq 4 acq) [1, 5, 0, 7]) := Lib.hid hm3
  clear hm hm3 hfd
  go_wp2_with fail
  have hc := vec_text (.slice aoq 4 acq) [1, 5, 0, 7] w15 Rq.out (by intro x hx; simp at hx <;> omega) (by decide) (HG.out.fr (HF2.out.trans' F.out))
  rw [text_1507] at hc
  obtain ⟨r4, hr4⟩ : ∃ r : ByteArray, ⟨([91, 49, 32, 53, 32, 48, 32, 55, 93] : List UInt8).toArray⟩ = r := ⟨_, rfl⟩
  rw [hr4] at hc
  have q4 := bstr _ _ hr4
  refine hc.mono ?_
  clear hc hr4
  rintro e w16 ⟨rfl, hfd⟩
  replace F := Lib.hid (F.out.trans' hfd)
  replace Rq := Lib.hid (Rq.out.fr hfd (fun _ _ _ f => f))
  clear hfd
  go_wp2_with fail
  have hc := vec_check (.slice (some ⟨ga, 0, none⟩) 3 3) [3, 0, 2] 2 w16 (HA.out.fr F.out (fun _ _ _ f => f))
  rw [show vcheck [3, 0, 2] 2 = 4 by decide] at hc
  refine hc.mono ?_
  clear hc
  rintro e w17 ⟨rfl, hfd⟩
  replace F := Lib.hid (F.out.trans' hfd)
  clear hfd
  go_wp2_with fail
  have hc := vec_check (.slice (some ⟨ga, 0, none⟩) 3 3) [3, 0, 2] 3 w17 (HA.out.fr F.out (fun _ _ _ f => f))
  rw [show vcheck [3, 0, 2] 3 = 0 by decide] at hc
  refine hc.mono ?_
  clear hc
  rintro e w18 ⟨rfl, hfd⟩
  replace F := Lib.hid (F.out.trans' hfd)
  clear hfd
  go_wp2
  go_ret
  exact ⟨rfl, HF2.out.trans' F.out⟩
end Go.Proofs.YtdepenibifbcpaaGreatDoor
