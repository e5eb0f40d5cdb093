/- The walk of the law RecDeps. -/
import Derived.Test.YtgcjnhocoklfbaaGreatDoorRcA
import Derived.Test.YtgcjnhocoklfbaaGreatDoorRc9
import Derived.Test.YtgcjnhocoklfbaaGreatDoorRcP
import Derived.Laws.OwnMore
namespace Go.XL
open Go.RowKit Go.Shelf
theorem rd_block {w : World} {g : Nat} {E : TypeId} {cs : Array Value} (h : w.heap[g]? = some (.cells cs E (0, 0))) (hn : cs.size ≤ 1000) : Rd w 1 (.slice (some ⟨g, 0, none⟩) cs.size cs.size) cs.size cs.toList := by
  refine ⟨by simp, _, cs.size, rfl, Nat.le_refl _, by unfold maxLen; omega, by simp, fun h0 => ⟨g, 0, rfl, fun j u hj => ?_⟩⟩
  exact cell_of_block h (by simpa using hj)
theorem deps_check {s q own : Int} {dep : List Int} (h1 : 0 ≤ s) (h2 : s < 4) (h3 : 1 ≤ q) (h4 : q ≤ 65536) (hv : vcheck dep 5 = 0) (hg : vget dep s = own) : rcheck s q dep [107] [] 5 = if q ≤ own then 13 else 0 := by
  unfold rcheck
  rw [if_neg (by omega), hv, if_neg (by simp), hg, show rccell [107] [] = 0 by decide]
theorem deps_long {s q : Int} {dep : List Int} (h1 : 0 ≤ s) (h2 : s < 4) (h3 : 1 ≤ q) (h4 : q ≤ 65536) (hv : vcheck dep 4 = 4) : rcheck s q dep [107] [] 4 = 4 := by
  unfold rcheck
  rw [if_neg (by omega), hv, if_pos (by simp)]
end Go.XL
namespace Go.Proofs.YtgcjnhocoklfbaaGreatDoor
open Go.RowKit Go.Shelf Go.XL Go.ChangeShapes Go.WideShapes Go.ChangeAt
set_option linter.unusedVariables false
set_option linter.unusedSimpArgs false
attribute [local go_sem] Oper.semAt_some
set_option maxRecDepth 100000 in
set_option maxHeartbeats 8000000 in
theorem recDeps_any (site seq own other : Int) (w : World) (hG : GlU w) (h1 : 0 ≤ site ∧ site ≤ 255) (h2 : 0 ≤ seq ∧ seq ≤ 65535) (h3 : 0 ≤ own ∧ own ≤ 65535) (h4 : 0 ≤ other ∧ other ≤ 65535) :
    Calls Tryz.prog 7 #[.int .u8 site, .int .u16 seq, .int .u16 own, .int .u16 other] w fun e w' => e = .returned (.bool true) ∧ Fr no w w' := by
  have hk := rknown w hG
  have HG := Lib.hid hG
  clear hG
  have hst : site.tmod 4 = site % 4 := Int.tmod_eq_emod_of_nonneg h1.1
  have hs4 : site % 4 = 0 ∨ site % 4 = 1 ∨ site % 4 = 2 ∨ site % 4 = 3 := by omega
  obtain ⟨q1, hq1⟩ : ∃ q, 1 + seq = q := ⟨_, rfl⟩
  have b1 : 1 ≤ q1 ∧ q1 ≤ 65536 := by omega
  obtain ⟨i0, hi, hz0, hz1, hz2⟩ := info_parts Tryz.info3
  go_enter Tryz.func7, Tryz.ntmps7
  go_wp2_with fail
  refine hk.mono ?_
  rintro e w1 ⟨rfl, hf1⟩
  have F := Lib.hid hf1
  clear hk hf1
  rcases hs4 with hs | hs | hs | hs
  · rw [hs] at hst
    have hv5 : vcheck [own,0,0,0,other] 5 = 0 := by
      unfold vcheck
      rw [if_neg (by decide), if_neg (by decide), if_neg (by simp)]
      exact vbad_ok (fun x hx => by simp only [List.mem_cons, List.not_mem_nil, or_false] at hx; omega)
    have hv4 : vcheck [own,0,0,0,other] 4 = 4 := by unfold vcheck; rw [if_neg (by decide), if_neg (by decide), if_pos (by simp)]
    have hvg : vget [own,0,0,0,other] 0 = own := by unfold vget; rw [if_pos (by simp)]; rfl
    have hc5 := deps_check (s := 0) (q := q1) (by decide) (by decide) b1.1 b1.2 hv5 hvg
    have hc4 := deps_long (s := 0) (q := q1) (by decide) (by decide) b1.1 b1.2 hv4
    have h64 : I64s [own,0,0,0,other] := by intro x hx; simp only [List.mem_cons, List.not_mem_nil, or_false] at hx; omega
    have Hc5 := Lib.hid hc5
    have Hc4 := Lib.hid hc4
    have H64 := Lib.hid h64
    clear hv5 hv4 hvg hc5 hc4 h64
    have hmk := run_make (P := Tryz.prog) (w := w1) 22 3 i0 _ Tryz.underlying22 hi hz0 .i64 .i64 5 5 (by decide) (by decide) (by omega) (by decide)
    rw [hz1] at hmk
    have hmc : madeCells (Value.int .i64 0).cells (Int.toNat 5 * 1) = #[.int .i64 0, .int .i64 0, .int .i64 0, .int .i64 0, .int .i64 0] := Array.ext' (by rw [show (Value.int .i64 0).cells = #[Value.int .i64 0] from rfl, show Int.toNat 5 * 1 = 5 from rfl, toList_madeCells_one]; rfl)
    rw [hmc] at hmk
    clear hmc
    replace hmk : (Instr.makeSlice 22 (.int .i64 5) (.int .i64 5)).run Tryz.prog w1 = .ok (.slice (some ⟨w1.heap.size, 0, none⟩) 5 5) (w1.alloc (.cells #[.int .i64 0, .int .i64 0, .int .i64 0, .int .i64 0, .int .i64 0] 3)) := hmk
    go_upto_region 5 with (fail)
    clear hmk
    obtain ⟨u0, hu0⟩ : ∃ U, w1.alloc (.cells #[.int .i64 0, .int .i64 0, .int .i64 0, .int .i64 0, .int .i64 0] 3) = U := ⟨_, rfl⟩
    obtain ⟨gs, hgs⟩ : ∃ g, w1.heap.size = g := ⟨_, rfl⟩
    have hb0 : u0.heap[gs]? = some (.cells #[.int .i64 0, .int .i64 0, .int .i64 0, .int .i64 0, .int .i64 0] 3 (0, 0)) := by rw [← hu0, ← hgs]; exact World.alloc_heap_new _ _
    have hf0 : Fr no w1 u0 := by rw [← hu0]; exact (Fr.refl no w1).alloc _
    have hw1 : w1.heap.size ≤ gs := by omega
    rw [hu0, hgs]
    clear hu0 hgs
    have fz : u0.frozen? ⟨gs, 0, none⟩ = false := frozen_of_block (j := 0) hb0
    have cz : u0.cell? ⟨gs, 0, none⟩ = some (.int .i64 0) := cell_of_block hb0 rfl
    go_upto_region 6 with (fail)
    obtain ⟨u1, hu1⟩ : ∃ U, u0.setCell ⟨gs, 0, none⟩ (.int .i64 own) = U := ⟨_, rfl⟩
    have hb1 := heap_setC (j := 0) (.int .i64 own) hb0
    rw [hu1] at hb1
    have hf1 : Fr (fun i => i = gs) u0 u1 := by rw [← hu1]; exact (Fr.refl (fun i => i = gs) u0).setCell (p := ⟨gs, 0, none⟩) (fun _ => rfl) _
    rw [hu1]
    clear hu1 fz cz hb0
    have fz : u1.frozen? ⟨gs, 4, none⟩ = false := frozen_of_block (j := 4) hb1
    have cz : u1.cell? ⟨gs, 4, none⟩ = some (.int .i64 0) := cell_of_block hb1 rfl
    go_upto_region 7 with (fail)
    obtain ⟨u2, hu2⟩ : ∃ U, u1.setCell ⟨gs, 4, none⟩ (.int .i64 other) = U := ⟨_, rfl⟩
    have hb2 := heap_setC (j := 4) (.int .i64 other) hb1
    rw [hu2] at hb2
    have hf2 : Fr (fun i => i = gs) u1 u2 := by rw [← hu2]; exact (Fr.refl (fun i => i = gs) u1).setCell (p := ⟨gs, 4, none⟩) (fun _ => rfl) _
    rw [hu2]
    clear hu2 fz cz hb1
    have hrd : IntsAt u2 (.slice (some ⟨gs, 0, none⟩) 5 5) [own,0,0,0,other] := rd_block hb2 (by simp)
    have hfd : Fr no w1 u2 := (hf0.trans hf1 (fun i hi e => by omega)).trans hf2 (fun i hi e => by omega)
    replace F := Lib.hid (F.out.trans' hfd)
    have HR := Lib.hid hrd
    clear hrd hfd hf0 hf1 hf2 hb2 hw1
    go_upto_region 8 with (fail)
    try rw [hq1]
    obtain ⟨u3, hu3⟩ : ∃ U, u2.alloc (.cells #[.int .i64 0, .int .i64 q1, .slice (some ⟨gs, 0, none⟩) 5 5, .string ⟨#[107]⟩, .string ⟨#[]⟩] 25) = U := ⟨_, rfl⟩
    obtain ⟨gx, hgx⟩ : ∃ g, u2.heap.size = g := ⟨_, rfl⟩
    have hbx : u3.heap[gx]? = some (.cells #[.int .i64 0, .int .i64 q1, .slice (some ⟨gs, 0, none⟩) 5 5, .string ⟨#[107]⟩, .string ⟨#[]⟩] 25 (0, 0)) := by rw [← hu3, ← hgx]; exact World.alloc_heap_new _ _
    have hfd : Fr no u2 u3 := by rw [← hu3]; exact (Fr.refl no u2).alloc _
    rw [hu3, hgx]
    have BX := Lib.hid hbx
    clear hbx hu3 hgx
    obtain ⟨a, ha⟩ : ∃ r : Rc, (⟨0, q1, .slice (some ⟨gs, 0, none⟩) 5 5, [own,0,0,0,other], ⟨#[107]⟩, ⟨#[]⟩⟩ : Rc) = r := ⟨_, rfl⟩
    have ea : a.v = .agg #[.int .i64 0, .int .i64 q1, .slice (some ⟨gs, 0, none⟩) 5 5, .string ⟨#[107]⟩, .string ⟨#[]⟩] := by rw [← ha]; rfl
    have et : a.text = rtext 0 q1 [own,0,0,0,other] [107] [] := by rw [← ha]; rfl
    have ek : ∀ S, a.check S = rcheck 0 q1 [own,0,0,0,other] [107] [] S := by rw [← ha]; exact fun S => rfl
    have em : ∀ (v : Value) (k x : ByteArray), k.data.toList = [107] → x.data.toList = [] → sameC ⟨0, q1, v, List.take (vlast [own,0,0,0,other]) [own,0,0,0,other], k, x⟩ a = true := fun v k x hk hx => by rw [← ha]; exact same_take hk hx
    have HA : Hid (RcOk u3 a) := Lib.hid (by rw [← ha]; exact HR.out.fr hfd (fun _ _ _ f => f))
    replace F := Lib.hid (F.out.trans' hfd)
    have Hks : Hid (a.key.size ≤ 1000000 ∧ a.val.size ≤ 1000000 ∧ a.dep.length ≤ 1000) := Lib.hid (by rw [← ha]; exact ⟨by dsimp only; decide, by dsimp only; decide, by simp⟩)
    have HRA : Hid (I64s a.dep ∧ (-9223372036854775808 ≤ a.s ∧ a.s ≤ 9223372036854775807) ∧ (-9223372036854775808 ≤ a.q ∧ a.q ≤ 9223372036854775807)) := Lib.hid (by rw [← ha]; exact ⟨H64.out, by dsimp only; omega, by dsimp only; omega⟩)
    have Hsz : Hid ((⟨a.text.toArray⟩ : ByteArray).size ≤ 100000) := Lib.hid (by
      have h1 := rtext_len (s := 0) (q := q1) (dep := [own,0,0,0,other]) (key := [107]) (val := []) H64.out (by omega) (by omega)
      show a.text.toArray.size ≤ 100000
      rw [List.size_toArray, et]
      simp at h1
      omega)
    have Ea := Lib.hid ea
    have Et := Lib.hid et
    have Ek := Lib.hid ek
    have Em := Lib.hid em
    clear ha ea et ek em hfd HR H64
    have xc0 : u3.cell? ⟨gx, 0, none⟩ = some (.int .i64 0) := cell_of_block BX.out rfl
    have xc1 : u3.cell? ⟨gx, 1, none⟩ = some (.int .i64 q1) := cell_of_block BX.out rfl
    have xc2 : u3.cell? ⟨gx, 2, none⟩ = some (.slice (some ⟨gs, 0, none⟩) 5 5) := cell_of_block BX.out rfl
    have xc3 : u3.cell? ⟨gx, 3, none⟩ = some (.string ⟨#[107]⟩) := cell_of_block BX.out rfl
    have xc4 : u3.cell? ⟨gx, 4, none⟩ = some (.string ⟨#[]⟩) := cell_of_block BX.out rfl
    have hc := r_check a 5 u3 HA.out Hks.out.1 Hks.out.2.1 (HG.out.fr F.out)
    rw [Ek.out, Hc5.out, Ea.out] at hc
    have Hrp := Lib.hid (fun h : ¬ q1 ≤ own => rparse_rtext (sites := 5) (by rw [Hc5.out, if_neg h]))
    go_wp2_with fail
    by_cases hge : q1 ≤ own
    · rw [if_pos hge] at hc
      refine hc.mono ?_
      clear hc
      rintro e u4 ⟨rfl, hfd⟩
      have hge' : 1 + seq ≤ own := by omega
      go_wp2
      go_ret
      exact ⟨rfl, F.out.trans' hfd⟩
    · rw [if_neg hge] at hc
      refine hc.mono ?_
      clear hc
      rintro e u4 ⟨rfl, hfd⟩
      have hge' : ¬ 1 + seq ≤ own := by omega
      have Hp := Lib.hid (Hrp.out (by omega))
      replace F := Lib.hid (F.out.trans' hfd)
      replace HA := Lib.hid (HA.out.fr hfd)
      replace BX := Lib.hid (hfd.heap BX.out (fun f => f))
      clear hfd
      clear xc0 xc1 xc2 xc3 xc4
      clear Hrp hge
      have xc0 : u4.cell? ⟨gx, 0, none⟩ = some (.int .i64 0) := cell_of_block BX.out rfl
      have xc1 : u4.cell? ⟨gx, 1, none⟩ = some (.int .i64 q1) := cell_of_block BX.out rfl
      have xc2 : u4.cell? ⟨gx, 2, none⟩ = some (.slice (some ⟨gs, 0, none⟩) 5 5) := cell_of_block BX.out rfl
      have xc3 : u4.cell? ⟨gx, 3, none⟩ = some (.string ⟨#[107]⟩) := cell_of_block BX.out rfl
      have xc4 : u4.cell? ⟨gx, 4, none⟩ = some (.string ⟨#[]⟩) := cell_of_block BX.out rfl
      have hc := r_text a u4 HA.out HRA.out.1 HRA.out.2.1 HRA.out.2.2 Hks.out.2.2 Hks.out.1 Hks.out.2.1 (HG.out.fr F.out).1
      obtain ⟨T, hT⟩ : ∃ T : ByteArray, (⟨a.text.toArray⟩ : ByteArray) = T := ⟨_, rfl⟩
      have hTd : T.data.toList = rtext 0 q1 [own,0,0,0,other] [107] [] := by rw [← hT, ← Et.out]
      rw [hT] at Hsz hc
      rw [Ea.out] at hc
      have HTd := Lib.hid hTd
      clear hT hTd
      go_wp2_with fail
      refine hc.mono ?_
      clear hc
      rintro e u5 ⟨rfl, hfd⟩
      replace F := Lib.hid (F.out.trans' hfd)
      replace HA := Lib.hid (HA.out.fr hfd)
      replace BX := Lib.hid (hfd.heap BX.out (fun f => f))
      clear hfd
      clear xc0 xc1 xc2 xc3 xc4
      have hc := r_parse T u5 Hsz.out (HG.out.fr F.out)
      rw [HTd.out, Hp.out] at hc
      go_wp2_with fail
      refine hc.mono ?_
      clear hc
      rintro e u6 ⟨r2, rfl, hr2, hfd⟩
      replace F := Lib.hid (F.out.trans' hfd)
      replace HA := Lib.hid (HA.out.fr hfd)
      replace BX := Lib.hid (hfd.heap BX.out (fun f => f))
      clear hfd
      obtain ⟨o2, c2, rfl, hI2⟩ := rc_form hr2
      dsimp only at hI2 ⊢
      obtain ⟨k2, hk2⟩ : ∃ k2 : ByteArray, (⟨[(107 : UInt8)].toArray⟩ : ByteArray) = k2 := ⟨_, rfl⟩
      obtain ⟨x2, hx2⟩ : ∃ x2 : ByteArray, (⟨([] : List UInt8).toArray⟩ : ByteArray) = x2 := ⟨_, rfl⟩
      obtain ⟨d2, hd2⟩ : ∃ d2, List.take (vlast [own,0,0,0,other]) [own,0,0,0,other] = d2 := ⟨_, rfl⟩
      have hm := Em.out (.slice o2 (List.take (vlast [own,0,0,0,other]) [own,0,0,0,other]).length c2) k2 x2 (by rw [← hk2]) (by rw [← hx2])
      rw [hd2] at hm
      rw [hk2, hx2, hd2]
      rw [hd2] at hI2
      obtain ⟨b, hb⟩ : ∃ b : Rc, (⟨0, q1, .slice o2 d2.length c2, d2, k2, x2⟩ : Rc) = b := ⟨_, rfl⟩
      have eb : b.v = .agg #[.int .i64 0, .int .i64 q1, .slice o2 d2.length c2, .string k2, .string x2] := by rw [← hb]; rfl
      have hB : RcOk u6 b := by rw [← hb]; exact hI2
      rw [hb] at hm ⊢
      rw [eb]
      have Eb := Lib.hid eb
      have HB := Lib.hid hB
      have Hm := Lib.hid hm
      clear hr2 hI2 hk2 hx2 hd2 hb eb hB hm Hsz HTd Hp
      go_upto_region 12 with (fail)
      obtain ⟨u7, hu7⟩ : ∃ U, u6.alloc (.cells #[.int .i64 0, .int .i64 q1, .slice o2 d2.length c2, .string k2, .string x2] 25) = U := ⟨_, rfl⟩
      obtain ⟨gz, hgz⟩ : ∃ g, u6.heap.size = g := ⟨_, rfl⟩
      have hbz : u7.heap[gz]? = some (.cells #[.int .i64 0, .int .i64 q1, .slice o2 d2.length c2, .string k2, .string x2] 25 (0, 0)) := by rw [← hu7, ← hgz]; exact World.alloc_heap_new _ _
      have hfd : Fr no u6 u7 := by rw [← hu7]; exact (Fr.refl no u6).alloc _
      rw [hu7, hgz]
      replace HB := Lib.hid (HB.out.fr hfd)
      replace F := Lib.hid (F.out.trans' hfd)
      replace HA := Lib.hid (HA.out.fr hfd)
      replace BX := Lib.hid (hfd.heap BX.out (fun f => f))
      clear hfd
      have BZ := Lib.hid hbz
      clear hbz hu7 hgz
      have zc0 : u7.cell? ⟨gz, 0, none⟩ = some (.int .i64 0) := cell_of_block BZ.out rfl
      have zc1 : u7.cell? ⟨gz, 1, none⟩ = some (.int .i64 q1) := cell_of_block BZ.out rfl
      have zc2 : u7.cell? ⟨gz, 2, none⟩ = some (.slice o2 d2.length c2) := cell_of_block BZ.out rfl
      have zc3 : u7.cell? ⟨gz, 3, none⟩ = some (.string k2) := cell_of_block BZ.out rfl
      have zc4 : u7.cell? ⟨gz, 4, none⟩ = some (.string x2) := cell_of_block BZ.out rfl
      have xc0 : u7.cell? ⟨gx, 0, none⟩ = some (.int .i64 0) := cell_of_block BX.out rfl
      have xc1 : u7.cell? ⟨gx, 1, none⟩ = some (.int .i64 q1) := cell_of_block BX.out rfl
      have xc2 : u7.cell? ⟨gx, 2, none⟩ = some (.slice (some ⟨gs, 0, none⟩) 5 5) := cell_of_block BX.out rfl
      have xc3 : u7.cell? ⟨gx, 3, none⟩ = some (.string ⟨#[107]⟩) := cell_of_block BX.out rfl
      have xc4 : u7.cell? ⟨gx, 4, none⟩ = some (.string ⟨#[]⟩) := cell_of_block BX.out rfl
      have hc := r_same b a u7 HB.out HA.out
      rw [Hm.out, Eb.out, Ea.out] at hc
      go_wp2_with fail
      refine hc.mono ?_
      clear hc
      rintro e u8 ⟨rfl, hfd⟩
      replace F := Lib.hid (F.out.trans' hfd)
      replace HA := Lib.hid (HA.out.fr hfd)
      replace BX := Lib.hid (hfd.heap BX.out (fun f => f))
      clear hfd
      clear xc0 xc1 xc2 xc3 xc4
      clear zc0 zc1 zc2 zc3 zc4
      have xc0 : u8.cell? ⟨gx, 0, none⟩ = some (.int .i64 0) := cell_of_block BX.out rfl
      have xc1 : u8.cell? ⟨gx, 1, none⟩ = some (.int .i64 q1) := cell_of_block BX.out rfl
      have xc2 : u8.cell? ⟨gx, 2, none⟩ = some (.slice (some ⟨gs, 0, none⟩) 5 5) := cell_of_block BX.out rfl
      have xc3 : u8.cell? ⟨gx, 3, none⟩ = some (.string ⟨#[107]⟩) := cell_of_block BX.out rfl
      have xc4 : u8.cell? ⟨gx, 4, none⟩ = some (.string ⟨#[]⟩) := cell_of_block BX.out rfl
      have hc := r_check a 4 u8 HA.out Hks.out.1 Hks.out.2.1 (HG.out.fr F.out)
      rw [Ek.out, Hc4.out, Ea.out] at hc
      go_wp2_with fail
      refine hc.mono ?_
      clear hc
      rintro e u9 ⟨rfl, hfd⟩
      go_wp2
      go_ret
      exact ⟨rfl, F.out.trans' hfd⟩
  · rw [hs] at hst
    have hv5 : vcheck [0,own,0,0,other] 5 = 0 := by
      unfold vcheck
      rw [if_neg (by decide), if_neg (by decide), if_neg (by simp)]
      exact vbad_ok (fun x hx => by simp only [List.mem_cons, List.not_mem_nil, or_false] at hx; omega)
    have hv4 : vcheck [0,own,0,0,other] 4 = 4 := by unfold vcheck; rw [if_neg (by decide), if_neg (by decide), if_pos (by simp)]
    have hvg : vget [0,own,0,0,other] 1 = own := by unfold vget; rw [if_pos (by simp)]; rfl
    have hc5 := deps_check (s := 1) (q := q1) (by decide) (by decide) b1.1 b1.2 hv5 hvg
    have hc4 := deps_long (s := 1) (q := q1) (by decide) (by decide) b1.1 b1.2 hv4
    have h64 : I64s [0,own,0,0,other] := by intro x hx; simp only [List.mem_cons, List.not_mem_nil, or_false] at hx; omega
    have Hc5 := Lib.hid hc5
    have Hc4 := Lib.hid hc4
    have H64 := Lib.hid h64
    clear hv5 hv4 hvg hc5 hc4 h64
    have hmk := run_make (P := Tryz.prog) (w := w1) 22 3 i0 _ Tryz.underlying22 hi hz0 .i64 .i64 5 5 (by decide) (by decide) (by omega) (by decide)
    rw [hz1] at hmk
    have hmc : madeCells (Value.int .i64 0).cells (Int.toNat 5 * 1) = #[.int .i64 0, .int .i64 0, .int .i64 0, .int .i64 0, .int .i64 0] := Array.ext' (by rw [show (Value.int .i64 0).cells = #[Value.int .i64 0] from rfl, show Int.toNat 5 * 1 = 5 from rfl, toList_madeCells_one]; rfl)
    rw [hmc] at hmk
    clear hmc
    replace hmk : (Instr.makeSlice 22 (.int .i64 5) (.int .i64 5)).run Tryz.prog w1 = .ok (.slice (some ⟨w1.heap.size, 0, none⟩) 5 5) (w1.alloc (.cells #[.int .i64 0, .int .i64 0, .int .i64 0, .int .i64 0, .int .i64 0] 3)) := hmk
    go_upto_region 5 with (fail)
    clear hmk
    obtain ⟨u0, hu0⟩ : ∃ U, w1.alloc (.cells #[.int .i64 0, .int .i64 0, .int .i64 0, .int .i64 0, .int .i64 0] 3) = U := ⟨_, rfl⟩
    obtain ⟨gs, hgs⟩ : ∃ g, w1.heap.size = g := ⟨_, rfl⟩
    have hb0 : u0.heap[gs]? = some (.cells #[.int .i64 0, .int .i64 0, .int .i64 0, .int .i64 0, .int .i64 0] 3 (0, 0)) := by rw [← hu0, ← hgs]; exact World.alloc_heap_new _ _
    have hf0 : Fr no w1 u0 := by rw [← hu0]; exact (Fr.refl no w1).alloc _
    have hw1 : w1.heap.size ≤ gs := by omega
    rw [hu0, hgs]
    clear hu0 hgs
    have fz : u0.frozen? ⟨gs, 1, none⟩ = false := frozen_of_block (j := 1) hb0
    have cz : u0.cell? ⟨gs, 1, none⟩ = some (.int .i64 0) := cell_of_block hb0 rfl
    go_upto_region 6 with (fail)
    obtain ⟨u1, hu1⟩ : ∃ U, u0.setCell ⟨gs, 1, none⟩ (.int .i64 own) = U := ⟨_, rfl⟩
    have hb1 := heap_setC (j := 1) (.int .i64 own) hb0
    rw [hu1] at hb1
    have hf1 : Fr (fun i => i = gs) u0 u1 := by rw [← hu1]; exact (Fr.refl (fun i => i = gs) u0).setCell (p := ⟨gs, 1, none⟩) (fun _ => rfl) _
    rw [hu1]
    clear hu1 fz cz hb0
    have fz : u1.frozen? ⟨gs, 4, none⟩ = false := frozen_of_block (j := 4) hb1
    have cz : u1.cell? ⟨gs, 4, none⟩ = some (.int .i64 0) := cell_of_block hb1 rfl
    go_upto_region 7 with (fail)
    obtain ⟨u2, hu2⟩ : ∃ U, u1.setCell ⟨gs, 4, none⟩ (.int .i64 other) = U := ⟨_, rfl⟩
    have hb2 := heap_setC (j := 4) (.int .i64 other) hb1
    rw [hu2] at hb2
    have hf2 : Fr (fun i => i = gs) u1 u2 := by rw [← hu2]; exact (Fr.refl (fun i => i = gs) u1).setCell (p := ⟨gs, 4, none⟩) (fun _ => rfl) _
    rw [hu2]
    clear hu2 fz cz hb1
    have hrd : IntsAt u2 (.slice (some ⟨gs, 0, none⟩) 5 5) [0,own,0,0,other] := rd_block hb2 (by simp)
    have hfd : Fr no w1 u2 := (hf0.trans hf1 (fun i hi e => by omega)).trans hf2 (fun i hi e => by omega)
    replace F := Lib.hid (F.out.trans' hfd)
    have HR := Lib.hid hrd
    clear hrd hfd hf0 hf1 hf2 hb2 hw1
    go_upto_region 8 with (fail)
    try rw [hq1]
    obtain ⟨u3, hu3⟩ : ∃ U, u2.alloc (.cells #[.int .i64 1, .int .i64 q1, .slice (some ⟨gs, 0, none⟩) 5 5, .string ⟨#[107]⟩, .string ⟨#[]⟩] 25) = U := ⟨_, rfl⟩
    obtain ⟨gx, hgx⟩ : ∃ g, u2.heap.size = g := ⟨_, rfl⟩
    have hbx : u3.heap[gx]? = some (.cells #[.int .i64 1, .int .i64 q1, .slice (some ⟨gs, 0, none⟩) 5 5, .string ⟨#[107]⟩, .string ⟨#[]⟩] 25 (0, 0)) := by rw [← hu3, ← hgx]; exact World.alloc_heap_new _ _
    have hfd : Fr no u2 u3 := by rw [← hu3]; exact (Fr.refl no u2).alloc _
    rw [hu3, hgx]
    have BX := Lib.hid hbx
    clear hbx hu3 hgx
    obtain ⟨a, ha⟩ : ∃ r : Rc, (⟨1, q1, .slice (some ⟨gs, 0, none⟩) 5 5, [0,own,0,0,other], ⟨#[107]⟩, ⟨#[]⟩⟩ : Rc) = r := ⟨_, rfl⟩
    have ea : a.v = .agg #[.int .i64 1, .int .i64 q1, .slice (some ⟨gs, 0, none⟩) 5 5, .string ⟨#[107]⟩, .string ⟨#[]⟩] := by rw [← ha]; rfl
    have et : a.text = rtext 1 q1 [0,own,0,0,other] [107] [] := by rw [← ha]; rfl
    have ek : ∀ S, a.check S = rcheck 1 q1 [0,own,0,0,other] [107] [] S := by rw [← ha]; exact fun S => rfl
    have em : ∀ (v : Value) (k x : ByteArray), k.data.toList = [107] → x.data.toList = [] → sameC ⟨1, q1, v, List.take (vlast [0,own,0,0,other]) [0,own,0,0,other], k, x⟩ a = true := fun v k x hk hx => by rw [← ha]; exact same_take hk hx
    have HA : Hid (RcOk u3 a) := Lib.hid (by rw [← ha]; exact HR.out.fr hfd (fun _ _ _ f => f))
    replace F := Lib.hid (F.out.trans' hfd)
    have Hks : Hid (a.key.size ≤ 1000000 ∧ a.val.size ≤ 1000000 ∧ a.dep.length ≤ 1000) := Lib.hid (by rw [← ha]; exact ⟨by dsimp only; decide, by dsimp only; decide, by simp⟩)
    have HRA : Hid (I64s a.dep ∧ (-9223372036854775808 ≤ a.s ∧ a.s ≤ 9223372036854775807) ∧ (-9223372036854775808 ≤ a.q ∧ a.q ≤ 9223372036854775807)) := Lib.hid (by rw [← ha]; exact ⟨H64.out, by dsimp only; omega, by dsimp only; omega⟩)
    have Hsz : Hid ((⟨a.text.toArray⟩ : ByteArray).size ≤ 100000) := Lib.hid (by
      have h1 := rtext_len (s := 1) (q := q1) (dep := [0,own,0,0,other]) (key := [107]) (val := []) H64.out (by omega) (by omega)
      show a.text.toArray.size ≤ 100000
      rw [List.size_toArray, et]
      simp at h1
      omega)
    have Ea := Lib.hid ea
    have Et := Lib.hid et
    have Ek := Lib.hid ek
    have Em := Lib.hid em
    clear ha ea et ek em hfd HR H64
    have xc0 : u3.cell? ⟨gx, 0, none⟩ = some (.int .i64 1) := cell_of_block BX.out rfl
    have xc1 : u3.cell? ⟨gx, 1, none⟩ = some (.int .i64 q1) := cell_of_block BX.out rfl
    have xc2 : u3.cell? ⟨gx, 2, none⟩ = some (.slice (some ⟨gs, 0, none⟩) 5 5) := cell_of_block BX.out rfl
    have xc3 : u3.cell? ⟨gx, 3, none⟩ = some (.string ⟨#[107]⟩) := cell_of_block BX.out rfl
    have xc4 : u3.cell? ⟨gx, 4, none⟩ = some (.string ⟨#[]⟩) := cell_of_block BX.out rfl
    have hc := r_check a 5 u3 HA.out Hks.out.1 Hks.out.2.1 (HG.out.fr F.out)
    rw [Ek.out, Hc5.out, Ea.out] at hc
    have Hrp := Lib.hid (fun h : ¬ q1 ≤ own => rparse_rtext (sites := 5) (by rw [Hc5.out, if_neg h]))
    go_wp2_with fail
    by_cases hge : q1 ≤ own
    · rw [if_pos hge] at hc
      refine hc.mono ?_
      clear hc
      rintro e u4 ⟨rfl, hfd⟩
      have hge' : 1 + seq ≤ own := by omega
      go_wp2
      go_ret
      exact ⟨rfl, F.out.trans' hfd⟩
    · rw [if_neg hge] at hc
      refine hc.mono ?_
      clear hc
      rintro e u4 ⟨rfl, hfd⟩
      have hge' : ¬ 1 + seq ≤ own := by omega
      have Hp := Lib.hid (Hrp.out (by omega))
      replace F := Lib.hid (F.out.trans' hfd)
      replace HA := Lib.hid (HA.out.fr hfd)
      replace BX := Lib.hid (hfd.heap BX.out (fun f => f))
      clear hfd
      clear xc0 xc1 xc2 xc3 xc4
      clear Hrp hge
      have xc0 : u4.cell? ⟨gx, 0, none⟩ = some (.int .i64 1) := cell_of_block BX.out rfl
      have xc1 : u4.cell? ⟨gx, 1, none⟩ = some (.int .i64 q1) := cell_of_block BX.out rfl
      have xc2 : u4.cell? ⟨gx, 2, none⟩ = some (.slice (some ⟨gs, 0, none⟩) 5 5) := cell_of_block BX.out rfl
      have xc3 : u4.cell? ⟨gx, 3, none⟩ = some (.string ⟨#[107]⟩) := cell_of_block BX.out rfl
      have xc4 : u4.cell? ⟨gx, 4, none⟩ = some (.string ⟨#[]⟩) := cell_of_block BX.out rfl
      have hc := r_text a u4 HA.out HRA.out.1 HRA.out.2.1 HRA.out.2.2 Hks.out.2.2 Hks.out.1 Hks.out.2.1 (HG.out.fr F.out).1
      obtain ⟨T, hT⟩ : ∃ T : ByteArray, (⟨a.text.toArray⟩ : ByteArray) = T := ⟨_, rfl⟩
      have hTd : T.data.toList = rtext 1 q1 [0,own,0,0,other] [107] [] := by rw [← hT, ← Et.out]
      rw [hT] at Hsz hc
      rw [Ea.out] at hc
      have HTd := Lib.hid hTd
      clear hT hTd
      go_wp2_with fail
      refine hc.mono ?_
      clear hc
      rintro e u5 ⟨rfl, hfd⟩
      replace F := Lib.hid (F.out.trans' hfd)
      replace HA := Lib.hid (HA.out.fr hfd)
      replace BX := Lib.hid (hfd.heap BX.out (fun f => f))
      clear hfd
      clear xc0 xc1 xc2 xc3 xc4
      have hc := r_parse T u5 Hsz.out (HG.out.fr F.out)
      rw [HTd.out, Hp.out] at hc
      go_wp2_with fail
      refine hc.mono ?_
      clear hc
      rintro e u6 ⟨r2, rfl, hr2, hfd⟩
      replace F := Lib.hid (F.out.trans' hfd)
      replace HA := Lib.hid (HA.out.fr hfd)
      replace BX := Lib.hid (hfd.heap BX.out (fun f => f))
      clear hfd
      obtain ⟨o2, c2, rfl, hI2⟩ := rc_form hr2
      dsimp only at hI2 ⊢
      obtain ⟨k2, hk2⟩ : ∃ k2 : ByteArray, (⟨[(107 : UInt8)].toArray⟩ : ByteArray) = k2 := ⟨_, rfl⟩
      obtain ⟨x2, hx2⟩ : ∃ x2 : ByteArray, (⟨([] : List UInt8).toArray⟩ : ByteArray) = x2 := ⟨_, rfl⟩
      obtain ⟨d2, hd2⟩ : ∃ d2, List.take (vlast [0,own,0,0,other]) [0,own,0,0,other] = d2 := ⟨_, rfl⟩
      have hm := Em.out (.slice o2 (List.take (vlast [0,own,0,0,other]) [0,own,0,0,other]).length c2) k2 x2 (by rw [← hk2]) (by rw [← hx2])
      rw [hd2] at hm
      rw [hk2, hx2, hd2]
      rw [hd2] at hI2
      obtain ⟨b, hb⟩ : ∃ b : Rc, (⟨1, q1, .slice o2 d2.length c2, d2, k2, x2⟩ : Rc) = b := ⟨_, rfl⟩
      have eb : b.v = .agg #[.int .i64 1, .int .i64 q1, .slice o2 d2.length c2, .string k2, .string x2] := by rw [← hb]; rfl
      have hB : RcOk u6 b := by rw [← hb]; exact hI2
      rw [hb] at hm ⊢
      rw [eb]
      have Eb := Lib.hid eb
      have HB := Lib.hid hB
      have Hm := Lib.hid hm
      clear hr2 hI2 hk2 hx2 hd2 hb eb hB hm Hsz HTd Hp
      go_upto_region 12 with (fail)
      obtain ⟨u7, hu7⟩ : ∃ U, u6.alloc (.cells #[.int .i64 1, .int .i64 q1, .slice o2 d2.length c2, .string k2, .string x2] 25) = U := ⟨_, rfl⟩
      obtain ⟨gz, hgz⟩ : ∃ g, u6.heap.size = g := ⟨_, rfl⟩
      have hbz : u7.heap[gz]? = some (.cells #[.int .i64 1, .int .i64 q1, .slice o2 d2.length c2, .string k2, .string x2] 25 (0, 0)) := by rw [← hu7, ← hgz]; exact World.alloc_heap_new _ _
      have hfd : Fr no u6 u7 := by rw [← hu7]; exact (Fr.refl no u6).alloc _
      rw [hu7, hgz]
      replace HB := Lib.hid (HB.out.fr hfd)
      replace F := Lib.hid (F.out.trans' hfd)
      replace HA := Lib.hid (HA.out.fr hfd)
      replace BX := Lib.hid (hfd.heap BX.out (fun f => f))
      clear hfd
      have BZ := Lib.hid hbz
      clear hbz hu7 hgz
      have zc0 : u7.cell? ⟨gz, 0, none⟩ = some (.int .i64 1) := cell_of_block BZ.out rfl
      have zc1 : u7.cell? ⟨gz, 1, none⟩ = some (.int .i64 q1) := cell_of_block BZ.out rfl
      have zc2 : u7.cell? ⟨gz, 2, none⟩ = some (.slice o2 d2.length c2) := cell_of_block BZ.out rfl
      have zc3 : u7.cell? ⟨gz, 3, none⟩ = some (.string k2) := cell_of_block BZ.out rfl
      have zc4 : u7.cell? ⟨gz, 4, none⟩ = some (.string x2) := cell_of_block BZ.out rfl
      have xc0 : u7.cell? ⟨gx, 0, none⟩ = some (.int .i64 1) := cell_of_block BX.out rfl
      have xc1 : u7.cell? ⟨gx, 1, none⟩ = some (.int .i64 q1) := cell_of_block BX.out rfl
      have xc2 : u7.cell? ⟨gx, 2, none⟩ = some (.slice (some ⟨gs, 0, none⟩) 5 5) := cell_of_block BX.out rfl
      have xc3 : u7.cell? ⟨gx, 3, none⟩ = some (.string ⟨#[107]⟩) := cell_of_block BX.out rfl
      have xc4 : u7.cell? ⟨gx, 4, none⟩ = some (.string ⟨#[]⟩) := cell_of_block BX.out rfl
      have hc := r_same b a u7 HB.out HA.out
      rw [Hm.out, Eb.out, Ea.out] at hc
      go_wp2_with fail
      refine hc.mono ?_
      clear hc
      rintro e u8 ⟨rfl, hfd⟩
      replace F := Lib.hid (F.out.trans' hfd)
      replace HA := Lib.hid (HA.out.fr hfd)
      replace BX := Lib.hid (hfd.heap BX.out (fun f => f))
      clear hfd
      clear xc0 xc1 xc2 xc3 xc4
      clear zc0 zc1 zc2 zc3 zc4
      have xc0 : u8.cell? ⟨gx, 0, none⟩ = some (.int .i64 1) := cell_of_block BX.out rfl
      have xc1 : u8.cell? ⟨gx, 1, none⟩ = some (.int .i64 q1) := cell_of_block BX.out rfl
      have xc2 : u8.cell? ⟨gx, 2, none⟩ = some (.slice (some ⟨gs, 0, none⟩) 5 5) := cell_of_block BX.out rfl
      have xc3 : u8.cell? ⟨gx, 3, none⟩ = some (.string ⟨#[107]⟩) := cell_of_block BX.out rfl
      have xc4 : u8.cell? ⟨gx, 4, none⟩ = some (.string ⟨#[]⟩) := cell_of_block BX.out rfl
      have hc := r_check a 4 u8 HA.out Hks.out.1 Hks.out.2.1 (HG.out.fr F.out)
      rw [Ek.out, Hc4.out, Ea.out] at hc
      go_wp2_with fail
      refine hc.mono ?_
      clear hc
      rintro e u9 ⟨rfl, hfd⟩
      go_wp2
      go_ret
      exact ⟨rfl, F.out.trans' hfd⟩
  · rw [hs] at hst
    have hv5 : vcheck [0,0,own,0,other] 5 = 0 := by
      unfold vcheck
      rw [if_neg (by decide), if_neg (by decide), if_neg (by simp)]
      exact vbad_ok (fun x hx => by simp only [List.mem_cons, List.not_mem_nil, or_false] at hx; omega)
    have hv4 : vcheck [0,0,own,0,other] 4 = 4 := by unfold vcheck; rw [if_neg (by decide), if_neg (by decide), if_pos (by simp)]
    have hvg : vget [0,0,own,0,other] 2 = own := by unfold vget; rw [if_pos (by simp)]; rfl
    have hc5 := deps_check (s := 2) (q := q1) (by decide) (by decide) b1.1 b1.2 hv5 hvg
    have hc4 := deps_long (s := 2) (q := q1) (by decide) (by decide) b1.1 b1.2 hv4
    have h64 : I64s [0,0,own,0,other] := by intro x hx; simp only [List.mem_cons, List.not_mem_nil, or_false] at hx; omega
    have Hc5 := Lib.hid hc5
    have Hc4 := Lib.hid hc4
    have H64 := Lib.hid h64
    clear hv5 hv4 hvg hc5 hc4 h64
    have hmk := run_make (P := Tryz.prog) (w := w1) 22 3 i0 _ Tryz.underlying22 hi hz0 .i64 .i64 5 5 (by decide) (by decide) (by omega) (by decide)
    rw [hz1] at hmk
    have hmc : madeCells (Value.int .i64 0).cells (Int.toNat 5 * 1) = #[.int .i64 0, .int .i64 0, .int .i64 0, .int .i64 0, .int .i64 0] := Array.ext' (by rw [show (Value.int .i64 0).cells = #[Value.int .i64 0] from rfl, show Int.toNat 5 * 1 = 5 from rfl, toList_madeCells_one]; rfl)
    rw [hmc] at hmk
    clear hmc
    replace hmk : (Instr.makeSlice 22 (.int .i64 5) (.int .i64 5)).run Tryz.prog w1 = .ok (.slice (some ⟨w1.heap.size, 0, none⟩) 5 5) (w1.alloc (.cells #[.int .i64 0, .int .i64 0, .int .i64 0, .int .i64 0, .int .i64 0] 3)) := hmk
    go_upto_region 5 with (fail)
    clear hmk
    obtain ⟨u0, hu0⟩ : ∃ U, w1.alloc (.cells #[.int .i64 0, .int .i64 0, .int .i64 0, .int .i64 0, .int .i64 0] 3) = U := ⟨_, rfl⟩
    obtain ⟨gs, hgs⟩ : ∃ g, w1.heap.size = g := ⟨_, rfl⟩
    have hb0 : u0.heap[gs]? = some (.cells #[.int .i64 0, .int .i64 0, .int .i64 0, .int .i64 0, .int .i64 0] 3 (0, 0)) := by rw [← hu0, ← hgs]; exact World.alloc_heap_new _ _
    have hf0 : Fr no w1 u0 := by rw [← hu0]; exact (Fr.refl no w1).alloc _
    have hw1 : w1.heap.size ≤ gs := by omega
    rw [hu0, hgs]
    clear hu0 hgs
    have fz : u0.frozen? ⟨gs, 2, none⟩ = false := frozen_of_block (j := 2) hb0
    have cz : u0.cell? ⟨gs, 2, none⟩ = some (.int .i64 0) := cell_of_block hb0 rfl
    go_upto_region 6 with (fail)
    obtain ⟨u1, hu1⟩ : ∃ U, u0.setCell ⟨gs, 2, none⟩ (.int .i64 own) = U := ⟨_, rfl⟩
    have hb1 := heap_setC (j := 2) (.int .i64 own) hb0
    rw [hu1] at hb1
    have hf1 : Fr (fun i => i = gs) u0 u1 := by rw [← hu1]; exact (Fr.refl (fun i => i = gs) u0).setCell (p := ⟨gs, 2, none⟩) (fun _ => rfl) _
    rw [hu1]
    clear hu1 fz cz hb0
    have fz : u1.frozen? ⟨gs, 4, none⟩ = false := frozen_of_block (j := 4) hb1
    have cz : u1.cell? ⟨gs, 4, none⟩ = some (.int .i64 0) := cell_of_block hb1 rfl
    go_upto_region 7 with (fail)
    obtain ⟨u2, hu2⟩ : ∃ U, u1.setCell ⟨gs, 4, none⟩ (.int .i64 other) = U := ⟨_, rfl⟩
    have hb2 := heap_setC (j := 4) (.int .i64 other) hb1
    rw [hu2] at hb2
    have hf2 : Fr (fun i => i = gs) u1 u2 := by rw [← hu2]; exact (Fr.refl (fun i => i = gs) u1).setCell (p := ⟨gs, 4, none⟩) (fun _ => rfl) _
    rw [hu2]
    clear hu2 fz cz hb1
    have hrd : IntsAt u2 (.slice (some ⟨gs, 0, none⟩) 5 5) [0,0,own,0,other] := rd_block hb2 (by simp)
    have hfd : Fr no w1 u2 := (hf0.trans hf1 (fun i hi e => by omega)).trans hf2 (fun i hi e => by omega)
    replace F := Lib.hid (F.out.trans' hfd)
    have HR := Lib.hid hrd
    clear hrd hfd hf0 hf1 hf2 hb2 hw1
    go_upto_region 8 with (fail)
    try rw [hq1]
    obtain ⟨u3, hu3⟩ : ∃ U, u2.alloc (.cells #[.int .i64 2, .int .i64 q1, .slice (some ⟨gs, 0, none⟩) 5 5, .string ⟨#[107]⟩, .string ⟨#[]⟩] 25) = U := ⟨_, rfl⟩
    obtain ⟨gx, hgx⟩ : ∃ g, u2.heap.size = g := ⟨_, rfl⟩
    have hbx : u3.heap[gx]? = some (.cells #[.int .i64 2, .int .i64 q1, .slice (some ⟨gs, 0, none⟩) 5 5, .string ⟨#[107]⟩, .string ⟨#[]⟩] 25 (0, 0)) := by rw [← hu3, ← hgx]; exact World.alloc_heap_new _ _
    have hfd : Fr no u2 u3 := by rw [← hu3]; exact (Fr.refl no u2).alloc _
    rw [hu3, hgx]
    have BX := Lib.hid hbx
    clear hbx hu3 hgx
    obtain ⟨a, ha⟩ : ∃ r : Rc, (⟨2, q1, .slice (some ⟨gs, 0, none⟩) 5 5, [0,0,own,0,other], ⟨#[107]⟩, ⟨#[]⟩⟩ : Rc) = r := ⟨_, rfl⟩
    have ea : a.v = .agg #[.int .i64 2, .int .i64 q1, .slice (some ⟨gs, 0, none⟩) 5 5, .string ⟨#[107]⟩, .string ⟨#[]⟩] := by rw [← ha]; rfl
    have et : a.text = rtext 2 q1 [0,0,own,0,other] [107] [] := by rw [← ha]; rfl
    have ek : ∀ S, a.check S = rcheck 2 q1 [0,0,own,0,other] [107] [] S := by rw [← ha]; exact fun S => rfl
    have em : ∀ (v : Value) (k x : ByteArray), k.data.toList = [107] → x.data.toList = [] → sameC ⟨2, q1, v, List.take (vlast [0,0,own,0,other]) [0,0,own,0,other], k, x⟩ a = true := fun v k x hk hx => by rw [← ha]; exact same_take hk hx
    have HA : Hid (RcOk u3 a) := Lib.hid (by rw [← ha]; exact HR.out.fr hfd (fun _ _ _ f => f))
    replace F := Lib.hid (F.out.trans' hfd)
    have Hks : Hid (a.key.size ≤ 1000000 ∧ a.val.size ≤ 1000000 ∧ a.dep.length ≤ 1000) := Lib.hid (by rw [← ha]; exact ⟨by dsimp only; decide, by dsimp only; decide, by simp⟩)
    have HRA : Hid (I64s a.dep ∧ (-9223372036854775808 ≤ a.s ∧ a.s ≤ 9223372036854775807) ∧ (-9223372036854775808 ≤ a.q ∧ a.q ≤ 9223372036854775807)) := Lib.hid (by rw [← ha]; exact ⟨H64.out, by dsimp only; omega, by dsimp only; omega⟩)
    have Hsz : Hid ((⟨a.text.toArray⟩ : ByteArray).size ≤ 100000) := Lib.hid (by
      have h1 := rtext_len (s := 2) (q := q1) (dep := [0,0,own,0,other]) (key := [107]) (val := []) H64.out (by omega) (by omega)
      show a.text.toArray.size ≤ 100000
      rw [List.size_toArray, et]
      simp at h1
      omega)
    have Ea := Lib.hid ea
    have Et := Lib.hid et
    have Ek := Lib.hid ek
    have Em := Lib.hid em
    clear ha ea et ek em hfd HR H64
    have xc0 : u3.cell? ⟨gx, 0, none⟩ = some (.int .i64 2) := cell_of_block BX.out rfl
    have xc1 : u3.cell? ⟨gx, 1, none⟩ = some (.int .i64 q1) := cell_of_block BX.out rfl
    have xc2 : u3.cell? ⟨gx, 2, none⟩ = some (.slice (some ⟨gs, 0, none⟩) 5 5) := cell_of_block BX.out rfl
    have xc3 : u3.cell? ⟨gx, 3, none⟩ = some (.string ⟨#[107]⟩) := cell_of_block BX.out rfl
    have xc4 : u3.cell? ⟨gx, 4, none⟩ = some (.string ⟨#[]⟩) := cell_of_block BX.out rfl
    have hc := r_check a 5 u3 HA.out Hks.out.1 Hks.out.2.1 (HG.out.fr F.out)
    rw [Ek.out, Hc5.out, Ea.out] at hc
    have Hrp := Lib.hid (fun h : ¬ q1 ≤ own => rparse_rtext (sites := 5) (by rw [Hc5.out, if_neg h]))
    go_wp2_with fail
    by_cases hge : q1 ≤ own
    · rw [if_pos hge] at hc
      refine hc.mono ?_
      clear hc
      rintro e u4 ⟨rfl, hfd⟩
      have hge' : 1 + seq ≤ own := by omega
      go_wp2
      go_ret
      exact ⟨rfl, F.out.trans' hfd⟩
    · rw [if_neg hge] at hc
      refine hc.mono ?_
      clear hc
      rintro e u4 ⟨rfl, hfd⟩
      have hge' : ¬ 1 + seq ≤ own := by omega
      have Hp := Lib.hid (Hrp.out (by omega))
      replace F := Lib.hid (F.out.trans' hfd)
      replace HA := Lib.hid (HA.out.fr hfd)
      replace BX := Lib.hid (hfd.heap BX.out (fun f => f))
      clear hfd
      clear xc0 xc1 xc2 xc3 xc4
      clear Hrp hge
      have xc0 : u4.cell? ⟨gx, 0, none⟩ = some (.int .i64 2) := cell_of_block BX.out rfl
      have xc1 : u4.cell? ⟨gx, 1, none⟩ = some (.int .i64 q1) := cell_of_block BX.out rfl
      have xc2 : u4.cell? ⟨gx, 2, none⟩ = some (.slice (some ⟨gs, 0, none⟩) 5 5) := cell_of_block BX.out rfl
      have xc3 : u4.cell? ⟨gx, 3, none⟩ = some (.string ⟨#[107]⟩) := cell_of_block BX.out rfl
      have xc4 : u4.cell? ⟨gx, 4, none⟩ = some (.string ⟨#[]⟩) := cell_of_block BX.out rfl
      have hc := r_text a u4 HA.out HRA.out.1 HRA.out.2.1 HRA.out.2.2 Hks.out.2.2 Hks.out.1 Hks.out.2.1 (HG.out.fr F.out).1
      obtain ⟨T, hT⟩ : ∃ T : ByteArray, (⟨a.text.toArray⟩ : ByteArray) = T := ⟨_, rfl⟩
      have hTd : T.data.toList = rtext 2 q1 [0,0,own,0,other] [107] [] := by rw [← hT, ← Et.out]
      rw [hT] at Hsz hc
      rw [Ea.out] at hc
      have HTd := Lib.hid hTd
      clear hT hTd
      go_wp2_with fail
      refine hc.mono ?_
      clear hc
      rintro e u5 ⟨rfl, hfd⟩
      replace F := Lib.hid (F.out.trans' hfd)
      replace HA := Lib.hid (HA.out.fr hfd)
      replace BX := Lib.hid (hfd.heap BX.out (fun f => f))
      clear hfd
      clear xc0 xc1 xc2 xc3 xc4
      have hc := r_parse T u5 Hsz.out (HG.out.fr F.out)
      rw [HTd.out, Hp.out] at hc
      go_wp2_with fail
      refine hc.mono ?_
      clear hc
      rintro e u6 ⟨r2, rfl, hr2, hfd⟩
      replace F := Lib.hid (F.out.trans' hfd)
      replace HA := Lib.hid (HA.out.fr hfd)
      replace BX := Lib.hid (hfd.heap BX.out (fun f => f))
      clear hfd
      obtain ⟨o2, c2, rfl, hI2⟩ := rc_form hr2
      dsimp only at hI2 ⊢
      obtain ⟨k2, hk2⟩ : ∃ k2 : ByteArray, (⟨[(107 : UInt8)].toArray⟩ : ByteArray) = k2 := ⟨_, rfl⟩
      obtain ⟨x2, hx2⟩ : ∃ x2 : ByteArray, (⟨([] : List UInt8).toArray⟩ : ByteArray) = x2 := ⟨_, rfl⟩
      obtain ⟨d2, hd2⟩ : ∃ d2, List.take (vlast [0,0,own,0,other]) [0,0,own,0,other] = d2 := ⟨_, rfl⟩
      have hm := Em.out (.slice o2 (List.take (vlast [0,0,own,0,other]) [0,0,own,0,other]).length c2) k2 x2 (by rw [← hk2]) (by rw [← hx2])
      rw [hd2] at hm
      rw [hk2, hx2, hd2]
      rw [hd2] at hI2
      obtain ⟨b, hb⟩ : ∃ b : Rc, (⟨2, q1, .slice o2 d2.length c2, d2, k2, x2⟩ : Rc) = b := ⟨_, rfl⟩
      have eb : b.v = .agg #[.int .i64 2, .int .i64 q1, .slice o2 d2.length c2, .string k2, .string x2] := by rw [← hb]; rfl
      have hB : RcOk u6 b := by rw [← hb]; exact hI2
      rw [hb] at hm ⊢
      rw [eb]
      have Eb := Lib.hid eb
      have HB := Lib.hid hB
      have Hm := Lib.hid hm
      clear hr2 hI2 hk2 hx2 hd2 hb eb hB hm Hsz HTd Hp
      go_upto_region 12 with (fail)
      obtain ⟨u7, hu7⟩ : ∃ U, u6.alloc (.cells #[.int .i64 2, .int .i64 q1, .slice o2 d2.length c2, .string k2, .string x2] 25) = U := ⟨_, rfl⟩
      obtain ⟨gz, hgz⟩ : ∃ g, u6.heap.size = g := ⟨_, rfl⟩
      have hbz : u7.heap[gz]? = some (.cells #[.int .i64 2, .int .i64 q1, .slice o2 d2.length c2, .string k2, .string x2] 25 (0, 0)) := by rw [← hu7, ← hgz]; exact World.alloc_heap_new _ _
      have hfd : Fr no u6 u7 := by rw [← hu7]; exact (Fr.refl no u6).alloc _
      rw [hu7, hgz]
      replace HB := Lib.hid (HB.out.fr hfd)
      replace F := Lib.hid (F.out.trans' hfd)
      replace HA := Lib.hid (HA.out.fr hfd)
      replace BX := Lib.hid (hfd.heap BX.out (fun f => f))
      clear hfd
      have BZ := Lib.hid hbz
      clear hbz hu7 hgz
      have zc0 : u7.cell? ⟨gz, 0, none⟩ = some (.int .i64 2) := cell_of_block BZ.out rfl
      have zc1 : u7.cell? ⟨gz, 1, none⟩ = some (.int .i64 q1) := cell_of_block BZ.out rfl
      have zc2 : u7.cell? ⟨gz, 2, none⟩ = some (.slice o2 d2.length c2) := cell_of_block BZ.out rfl
      have zc3 : u7.cell? ⟨gz, 3, none⟩ = some (.string k2) := cell_of_block BZ.out rfl
      have zc4 : u7.cell? ⟨gz, 4, none⟩ = some (.string x2) := cell_of_block BZ.out rfl
      have xc0 : u7.cell? ⟨gx, 0, none⟩ = some (.int .i64 2) := cell_of_block BX.out rfl
      have xc1 : u7.cell? ⟨gx, 1, none⟩ = some (.int .i64 q1) := cell_of_block BX.out rfl
      have xc2 : u7.cell? ⟨gx, 2, none⟩ = some (.slice (some ⟨gs, 0, none⟩) 5 5) := cell_of_block BX.out rfl
      have xc3 : u7.cell? ⟨gx, 3, none⟩ = some (.string ⟨#[107]⟩) := cell_of_block BX.out rfl
      have xc4 : u7.cell? ⟨gx, 4, none⟩ = some (.string ⟨#[]⟩) := cell_of_block BX.out rfl
      have hc := r_same b a u7 HB.out HA.out
      rw [Hm.out, Eb.out, Ea.out] at hc
      go_wp2_with fail
      refine hc.mono ?_
      clear hc
      rintro e u8 ⟨rfl, hfd⟩
      replace F := Lib.hid (F.out.trans' hfd)
      replace HA := Lib.hid (HA.out.fr hfd)
      replace BX := Lib.hid (hfd.heap BX.out (fun f => f))
      clear hfd
      clear xc0 xc1 xc2 xc3 xc4
      clear zc0 zc1 zc2 zc3 zc4
      have xc0 : u8.cell? ⟨gx, 0, none⟩ = some (.int .i64 2) := cell_of_block BX.out rfl
      have xc1 : u8.cell? ⟨gx, 1, none⟩ = some (.int .i64 q1) := cell_of_block BX.out rfl
      have xc2 : u8.cell? ⟨gx, 2, none⟩ = some (.slice (some ⟨gs, 0, none⟩) 5 5) := cell_of_block BX.out rfl
      have xc3 : u8.cell? ⟨gx, 3, none⟩ = some (.string ⟨#[107]⟩) := cell_of_block BX.out rfl
      have xc4 : u8.cell? ⟨gx, 4, none⟩ = some (.string ⟨#[]⟩) := cell_of_block BX.out rfl
      have hc := r_check a 4 u8 HA.out Hks.out.1 Hks.out.2.1 (HG.out.fr F.out)
      rw [Ek.out, Hc4.out, Ea.out] at hc
      go_wp2_with fail
      refine hc.mono ?_
      clear hc
      rintro e u9 ⟨rfl, hfd⟩
      go_wp2
      go_ret
      exact ⟨rfl, F.out.trans' hfd⟩
  · rw [hs] at hst
    have hv5 : vcheck [0,0,0,own,other] 5 = 0 := by
      unfold vcheck
      rw [if_neg (by decide), if_neg (by decide), if_neg (by simp)]
      exact vbad_ok (fun x hx => by simp only [List.mem_cons, List.not_mem_nil, or_false] at hx; omega)
    have hv4 : vcheck [0,0,0,own,other] 4 = 4 := by unfold vcheck; rw [if_neg (by decide), if_neg (by decide), if_pos (by simp)]
    have hvg : vget [0,0,0,own,other] 3 = own := by unfold vget; rw [if_pos (by simp)]; rfl
    have hc5 := deps_check (s := 3) (q := q1) (by decide) (by decide) b1.1 b1.2 hv5 hvg
    have hc4 := deps_long (s := 3) (q := q1) (by decide) (by decide) b1.1 b1.2 hv4
    have h64 : I64s [0,0,0,own,other] := by intro x hx; simp only [List.mem_cons, List.not_mem_nil, or_false] at hx; omega
    have Hc5 := Lib.hid hc5
    have Hc4 := Lib.hid hc4
    have H64 := Lib.hid h64
    clear hv5 hv4 hvg hc5 hc4 h64
    have hmk := run_make (P := Tryz.prog) (w := w1) 22 3 i0 _ Tryz.underlying22 hi hz0 .i64 .i64 5 5 (by decide) (by decide) (by omega) (by decide)
    rw [hz1] at hmk
    have hmc : madeCells (Value.int .i64 0).cells (Int.toNat 5 * 1) = #[.int .i64 0, .int .i64 0, .int .i64 0, .int .i64 0, .int .i64 0] := Array.ext' (by rw [show (Value.int .i64 0).cells = #[Value.int .i64 0] from rfl, show Int.toNat 5 * 1 = 5 from rfl, toList_madeCells_one]; rfl)
    rw [hmc] at hmk
    clear hmc
    replace hmk : (Instr.makeSlice 22 (.int .i64 5) (.int .i64 5)).run Tryz.prog w1 = .ok (.slice (some ⟨w1.heap.size, 0, none⟩) 5 5) (w1.alloc (.cells #[.int .i64 0, .int .i64 0, .int .i64 0, .int .i64 0, .int .i64 0] 3)) := hmk
    go_upto_region 5 with (fail)
    clear hmk
    obtain ⟨u0, hu0⟩ : ∃ U, w1.alloc (.cells #[.int .i64 0, .int .i64 0, .int .i64 0, .int .i64 0, .int .i64 0] 3) = U := ⟨_, rfl⟩
    obtain ⟨gs, hgs⟩ : ∃ g, w1.heap.size = g := ⟨_, rfl⟩
    have hb0 : u0.heap[gs]? = some (.cells #[.int .i64 0, .int .i64 0, .int .i64 0, .int .i64 0, .int .i64 0] 3 (0, 0)) := by rw [← hu0, ← hgs]; exact World.alloc_heap_new _ _
    have hf0 : Fr no w1 u0 := by rw [← hu0]; exact (Fr.refl no w1).alloc _
    have hw1 : w1.heap.size ≤ gs := by omega
    rw [hu0, hgs]
    clear hu0 hgs
    have fz : u0.frozen? ⟨gs, 3, none⟩ = false := frozen_of_block (j := 3) hb0
    have cz : u0.cell? ⟨gs, 3, none⟩ = some (.int .i64 0) := cell_of_block hb0 rfl
    go_upto_region 6 with (fail)
    obtain ⟨u1, hu1⟩ : ∃ U, u0.setCell ⟨gs, 3, none⟩ (.int .i64 own) = U := ⟨_, rfl⟩
    have hb1 := heap_setC (j := 3) (.int .i64 own) hb0
    rw [hu1] at hb1
    have hf1 : Fr (fun i => i = gs) u0 u1 := by rw [← hu1]; exact (Fr.refl (fun i => i = gs) u0).setCell (p := ⟨gs, 3, none⟩) (fun _ => rfl) _
    rw [hu1]
    clear hu1 fz cz hb0
    have fz : u1.frozen? ⟨gs, 4, none⟩ = false := frozen_of_block (j := 4) hb1
    have cz : u1.cell? ⟨gs, 4, none⟩ = some (.int .i64 0) := cell_of_block hb1 rfl
    go_upto_region 7 with (fail)
    obtain ⟨u2, hu2⟩ : ∃ U, u1.setCell ⟨gs, 4, none⟩ (.int .i64 other) = U := ⟨_, rfl⟩
    have hb2 := heap_setC (j := 4) (.int .i64 other) hb1
    rw [hu2] at hb2
    have hf2 : Fr (fun i => i = gs) u1 u2 := by rw [← hu2]; exact (Fr.refl (fun i => i = gs) u1).setCell (p := ⟨gs, 4, none⟩) (fun _ => rfl) _
    rw [hu2]
    clear hu2 fz cz hb1
    have hrd : IntsAt u2 (.slice (some ⟨gs, 0, none⟩) 5 5) [0,0,0,own,other] := rd_block hb2 (by simp)
    have hfd : Fr no w1 u2 := (hf0.trans hf1 (fun i hi e => by omega)).trans hf2 (fun i hi e => by omega)
    replace F := Lib.hid (F.out.trans' hfd)
    have HR := Lib.hid hrd
    clear hrd hfd hf0 hf1 hf2 hb2 hw1
    go_upto_region 8 with (fail)
    try rw [hq1]
    obtain ⟨u3, hu3⟩ : ∃ U, u2.alloc (.cells #[.int .i64 3, .int .i64 q1, .slice (some ⟨gs, 0, none⟩) 5 5, .string ⟨#[107]⟩, .string ⟨#[]⟩] 25) = U := ⟨_, rfl⟩
    obtain ⟨gx, hgx⟩ : ∃ g, u2.heap.size = g := ⟨_, rfl⟩
    have hbx : u3.heap[gx]? = some (.cells #[.int .i64 3, .int .i64 q1, .slice (some ⟨gs, 0, none⟩) 5 5, .string ⟨#[107]⟩, .string ⟨#[]⟩] 25 (0, 0)) := by rw [← hu3, ← hgx]; exact World.alloc_heap_new _ _
    have hfd : Fr no u2 u3 := by rw [← hu3]; exact (Fr.refl no u2).alloc _
    rw [hu3, hgx]
    have BX := Lib.hid hbx
    clear hbx hu3 hgx
    obtain ⟨a, ha⟩ : ∃ r : Rc, (⟨3, q1, .slice (some ⟨gs, 0, none⟩) 5 5, [0,0,0,own,other], ⟨#[107]⟩, ⟨#[]⟩⟩ : Rc) = r := ⟨_, rfl⟩
    have ea : a.v = .agg #[.int .i64 3, .int .i64 q1, .slice (some ⟨gs, 0, none⟩) 5 5, .string ⟨#[107]⟩, .string ⟨#[]⟩] := by rw [← ha]; rfl
    have et : a.text = rtext 3 q1 [0,0,0,own,other] [107] [] := by rw [← ha]; rfl
    have ek : ∀ S, a.check S = rcheck 3 q1 [0,0,0,own,other] [107] [] S := by rw [← ha]; exact fun S => rfl
    have em : ∀ (v : Value) (k x : ByteArray), k.data.toList = [107] → x.data.toList = [] → sameC ⟨3, q1, v, List.take (vlast [0,0,0,own,other]) [0,0,0,own,other], k, x⟩ a = true := fun v k x hk hx => by rw [← ha]; exact same_take hk hx
    have HA : Hid (RcOk u3 a) := Lib.hid (by rw [← ha]; exact HR.out.fr hfd (fun _ _ _ f => f))
    replace F := Lib.hid (F.out.trans' hfd)
    have Hks : Hid (a.key.size ≤ 1000000 ∧ a.val.size ≤ 1000000 ∧ a.dep.length ≤ 1000) := Lib.hid (by rw [← ha]; exact ⟨by dsimp only; decide, by dsimp only; decide, by simp⟩)
    have HRA : Hid (I64s a.dep ∧ (-9223372036854775808 ≤ a.s ∧ a.s ≤ 9223372036854775807) ∧ (-9223372036854775808 ≤ a.q ∧ a.q ≤ 9223372036854775807)) := Lib.hid (by rw [← ha]; exact ⟨H64.out, by dsimp only; omega, by dsimp only; omega⟩)
    have Hsz : Hid ((⟨a.text.toArray⟩ : ByteArray).size ≤ 100000) := Lib.hid (by
      have h1 := rtext_len (s := 3) (q := q1) (dep := [0,0,0,own,other]) (key := [107]) (val := []) H64.out (by omega) (by omega)
      show a.text.toArray.size ≤ 100000
      rw [List.size_toArray, et]
      simp at h1
      omega)
    have Ea := Lib.hid ea
    have Et := Lib.hid et
    have Ek := Lib.hid ek
    have Em := Lib.hid em
    clear ha ea et ek em hfd HR H64
    have xc0 : u3.cell? ⟨gx, 0, none⟩ = some (.int .i64 3) := cell_of_block BX.out rfl
    have xc1 : u3.cell? ⟨gx, 1, none⟩ = some (.int .i64 q1) := cell_of_block BX.out rfl
    have xc2 : u3.cell? ⟨gx, 2, none⟩ = some (.slice (some ⟨gs, 0, none⟩) 5 5) := cell_of_block BX.out rfl
    have xc3 : u3.cell? ⟨gx, 3, none⟩ = some (.string ⟨#[107]⟩) := cell_of_block BX.out rfl
    have xc4 : u3.cell? ⟨gx, 4, none⟩ = some (.string ⟨#[]⟩) := cell_of_block BX.out rfl
    have hc := r_check a 5 u3 HA.out Hks.out.1 Hks.out.2.1 (HG.out.fr F.out)
    rw [Ek.out, Hc5.out, Ea.out] at hc
    have Hrp := Lib.hid (fun h : ¬ q1 ≤ own => rparse_rtext (sites := 5) (by rw [Hc5.out, if_neg h]))
    go_wp2_with fail
    by_cases hge : q1 ≤ own
    · rw [if_pos hge] at hc
      refine hc.mono ?_
      clear hc
      rintro e u4 ⟨rfl, hfd⟩
      have hge' : 1 + seq ≤ own := by omega
      go_wp2
      go_ret
      exact ⟨rfl, F.out.trans' hfd⟩
    · rw [if_neg hge] at hc
      refine hc.mono ?_
      clear hc
      rintro e u4 ⟨rfl, hfd⟩
      have hge' : ¬ 1 + seq ≤ own := by omega
      have Hp := Lib.hid (Hrp.out (by omega))
      replace F := Lib.hid (F.out.trans' hfd)
      replace HA := Lib.hid (HA.out.fr hfd)
      replace BX := Lib.hid (hfd.heap BX.out (fun f => f))
      clear hfd
      clear xc0 xc1 xc2 xc3 xc4
      clear Hrp hge
      have xc0 : u4.cell? ⟨gx, 0, none⟩ = some (.int .i64 3) := cell_of_block BX.out rfl
      have xc1 : u4.cell? ⟨gx, 1, none⟩ = some (.int .i64 q1) := cell_of_block BX.out rfl
      have xc2 : u4.cell? ⟨gx, 2, none⟩ = some (.slice (some ⟨gs, 0, none⟩) 5 5) := cell_of_block BX.out rfl
      have xc3 : u4.cell? ⟨gx, 3, none⟩ = some (.string ⟨#[107]⟩) := cell_of_block BX.out rfl
      have xc4 : u4.cell? ⟨gx, 4, none⟩ = some (.string ⟨#[]⟩) := cell_of_block BX.out rfl
      have hc := r_text a u4 HA.out HRA.out.1 HRA.out.2.1 HRA.out.2.2 Hks.out.2.2 Hks.out.1 Hks.out.2.1 (HG.out.fr F.out).1
      obtain ⟨T, hT⟩ : ∃ T : ByteArray, (⟨a.text.toArray⟩ : ByteArray) = T := ⟨_, rfl⟩
      have hTd : T.data.toList = rtext 3 q1 [0,0,0,own,other] [107] [] := by rw [← hT, ← Et.out]
      rw [hT] at Hsz hc
      rw [Ea.out] at hc
      have HTd := Lib.hid hTd
      clear hT hTd
      go_wp2_with fail
      refine hc.mono ?_
      clear hc
      rintro e u5 ⟨rfl, hfd⟩
      replace F := Lib.hid (F.out.trans' hfd)
      replace HA := Lib.hid (HA.out.fr hfd)
      replace BX := Lib.hid (hfd.heap BX.out (fun f => f))
      clear hfd
      clear xc0 xc1 xc2 xc3 xc4
      have hc := r_parse T u5 Hsz.out (HG.out.fr F.out)
      rw [HTd.out, Hp.out] at hc
      go_wp2_with fail
      refine hc.mono ?_
      clear hc
      rintro e u6 ⟨r2, rfl, hr2, hfd⟩
      replace F := Lib.hid (F.out.trans' hfd)
      replace HA := Lib.hid (HA.out.fr hfd)
      replace BX := Lib.hid (hfd.heap BX.out (fun f => f))
      clear hfd
      obtain ⟨o2, c2, rfl, hI2⟩ := rc_form hr2
      dsimp only at hI2 ⊢
      obtain ⟨k2, hk2⟩ : ∃ k2 : ByteArray, (⟨[(107 : UInt8)].toArray⟩ : ByteArray) = k2 := ⟨_, rfl⟩
      obtain ⟨x2, hx2⟩ : ∃ x2 : ByteArray, (⟨([] : List UInt8).toArray⟩ : ByteArray) = x2 := ⟨_, rfl⟩
      obtain ⟨d2, hd2⟩ : ∃ d2, List.take (vlast [0,0,0,own,other]) [0,0,0,own,other] = d2 := ⟨_, rfl⟩
      have hm := Em.out (.slice o2 (List.take (vlast [0,0,0,own,other]) [0,0,0,own,other]).length c2) k2 x2 (by rw [← hk2]) (by rw [← hx2])
      rw [hd2] at hm
      rw [hk2, hx2, hd2]
      rw [hd2] at hI2
      obtain ⟨b, hb⟩ : ∃ b : Rc, (⟨3, q1, .slice o2 d2.length c2, d2, k2, x2⟩ : Rc) = b := ⟨_, rfl⟩
      have eb : b.v = .agg #[.int .i64 3, .int .i64 q1, .slice o2 d2.length c2, .string k2, .string x2] := by rw [← hb]; rfl
      have hB : RcOk u6 b := by rw [← hb]; exact hI2
      rw [hb] at hm ⊢
      rw [eb]
      have Eb := Lib.hid eb
      have HB := Lib.hid hB
      have Hm := Lib.hid hm
      clear hr2 hI2 hk2 hx2 hd2 hb eb hB hm Hsz HTd Hp
      go_upto_region 12 with (fail)
      obtain ⟨u7, hu7⟩ : ∃ U, u6.alloc (.cells #[.int .i64 3, .int .i64 q1, .slice o2 d2.length c2, .string k2, .string x2] 25) = U := ⟨_, rfl⟩
      obtain ⟨gz, hgz⟩ : ∃ g, u6.heap.size = g := ⟨_, rfl⟩
      have hbz : u7.heap[gz]? = some (.cells #[.int .i64 3, .int .i64 q1, .slice o2 d2.length c2, .string k2, .string x2] 25 (0, 0)) := by rw [← hu7, ← hgz]; exact World.alloc_heap_new _ _
      have hfd : Fr no u6 u7 := by rw [← hu7]; exact (Fr.refl no u6).alloc _
      rw [hu7, hgz]
      replace HB := Lib.hid (HB.out.fr hfd)
      replace F := Lib.hid (F.out.trans' hfd)
      replace HA := Lib.hid (HA.out.fr hfd)
      replace BX := Lib.hid (hfd.heap BX.out (fun f => f))
      clear hfd
      have BZ := Lib.hid hbz
      clear hbz hu7 hgz
      have zc0 : u7.cell? ⟨gz, 0, none⟩ = some (.int .i64 3) := cell_of_block BZ.out rfl
      have zc1 : u7.cell? ⟨gz, 1, none⟩ = some (.int .i64 q1) := cell_of_block BZ.out rfl
      have zc2 : u7.cell? ⟨gz, 2, none⟩ = some (.slice o2 d2.length c2) := cell_of_block BZ.out rfl
      have zc3 : u7.cell? ⟨gz, 3, none⟩ = some (.string k2) := cell_of_block BZ.out rfl
      have zc4 : u7.cell? ⟨gz, 4, none⟩ = some (.string x2) := cell_of_block BZ.out rfl
      have xc0 : u7.cell? ⟨gx, 0, none⟩ = some (.int .i64 3) := cell_of_block BX.out rfl
      have xc1 : u7.cell? ⟨gx, 1, none⟩ = some (.int .i64 q1) := cell_of_block BX.out rfl
      have xc2 : u7.cell? ⟨gx, 2, none⟩ = some (.slice (some ⟨gs, 0, none⟩) 5 5) := cell_of_block BX.out rfl
      have xc3 : u7.cell? ⟨gx, 3, none⟩ = some (.string ⟨#[107]⟩) := cell_of_block BX.out rfl
      have xc4 : u7.cell? ⟨gx, 4, none⟩ = some (.string ⟨#[]⟩) := cell_of_block BX.out rfl
      have hc := r_same b a u7 HB.out HA.out
      rw [Hm.out, Eb.out, Ea.out] at hc
      go_wp2_with fail
      refine hc.mono ?_
      clear hc
      rintro e u8 ⟨rfl, hfd⟩
      replace F := Lib.hid (F.out.trans' hfd)
      replace HA := Lib.hid (HA.out.fr hfd)
      replace BX := Lib.hid (hfd.heap BX.out (fun f => f))
      clear hfd
      clear xc0 xc1 xc2 xc3 xc4
      clear zc0 zc1 zc2 zc3 zc4
      have xc0 : u8.cell? ⟨gx, 0, none⟩ = some (.int .i64 3) := cell_of_block BX.out rfl
      have xc1 : u8.cell? ⟨gx, 1, none⟩ = some (.int .i64 q1) := cell_of_block BX.out rfl
      have xc2 : u8.cell? ⟨gx, 2, none⟩ = some (.slice (some ⟨gs, 0, none⟩) 5 5) := cell_of_block BX.out rfl
      have xc3 : u8.cell? ⟨gx, 3, none⟩ = some (.string ⟨#[107]⟩) := cell_of_block BX.out rfl
      have xc4 : u8.cell? ⟨gx, 4, none⟩ = some (.string ⟨#[]⟩) := cell_of_block BX.out rfl
      have hc := r_check a 4 u8 HA.out Hks.out.1 Hks.out.2.1 (HG.out.fr F.out)
      rw [Ek.out, Hc4.out, Ea.out] at hc
      go_wp2_with fail
      refine hc.mono ?_
      clear hc
      rintro e u9 ⟨rfl, hfd⟩
      go_wp2
      go_ret
      exact ⟨rfl, F.out.trans' hfd⟩
set_option maxRecDepth 100000 in
theorem recDeps_row (a b c d : Int) (w : World) (hG : GlU w) (h1 : (Lit.int .u8 a).wf = true) (h2 : (Lit.int .u16 b).wf = true) (h3 : (Lit.int .u16 c).wf = true) (h4 : (Lit.int .u16 d).wf = true) :
    Calls Tryz.prog 7 #[.int .u8 a, .int .u16 b, .int .u16 c, .int .u16 d] w fun e w' => e = .returned (.bool true) ∧ Below w.heap.size w w' := by
  refine (recDeps_any a b c d w hG (bounds_u8 h1) (bounds_u16 h2) (bounds_u16 h3) (bounds_u16 h4)).mono ?_
  rintro e w' ⟨he, hf⟩
  exact ⟨he, hf.below⟩
end Go.Proofs.YtgcjnhocoklfbaaGreatDoor
