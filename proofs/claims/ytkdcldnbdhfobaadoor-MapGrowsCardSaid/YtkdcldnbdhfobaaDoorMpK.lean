/- The laws' known, for maps; Nums over Positions. -/
import Derived.Test.YtkdcldnbdhfobaaDoorMpI
import Derived.Test.YtkdcldnbdhfobaaDoorMpT
import Derived.Test.YtkdcldnbdhfobaaDoorMpU
import Derived.Test.YtkdcldnbdhfobaaDoorMpA
import Derived.Test.YtkdcldnbdhfobaaDoorMpF
import Derived.Test.YtkdcldnbdhfobaaDoorMpQ
import Derived.Test.YtkdcldnbdhfobaaDoorMp5
import Derived.Test.YtkdcldnbdhfobaaDoorMp2
import Derived.Test.YtkdcldnbdhfobaaDoorPairs
namespace Go.XL
open Go.RowKit Go.Shelf
set_option linter.unusedVariables false
set_option linter.unusedSimpArgs false
theorem bstrM (l : List UInt8) (r : ByteArray) (h : ⟨l.toArray⟩ = r) : (r.toList == l) = true := by rw [← h, ByteArray.toList_eq]; simp
end Go.XL
namespace Go.Proofs.YtkdcldnbdhfobaaDoor
open Go.RowKit Go.Shelf Go.XL
set_option linter.unusedVariables false
set_option linter.unusedSimpArgs false
attribute [local go_sem] Oper.semAt_some
theorem ktext : mtext [(0, 2), (5, 3)] = [48, 47, 50, 32, 53, 47, 51] := by simp [mtext, mword, wjoin, Lib.itoa, Lib.decDigits_one]
theorem kparse : mparse [48, 47, 50, 32, 53, 47, 51] = ([(0, 2), (5, 3)], 0) := by decide
theorem kpos : mpos [(0, 2), (5, 3)] 1 0 12 = [1, 3, 6, 9] := by decide
theorem kadd : madd [(0, 2)] 5 3 = ([(0, 2), (5, 3)], 0) := by decide
theorem kadd2 : madd [(0, 2), (5, 3)] 4 1 = ([], 1) := by decide
theorem kfind6 : mfind [(0, 2), (5, 3)] 6 = (2, 1, 0) := by decide
theorem kfind4 : mfind [(0, 2), (5, 3)] 4 = (1, 0, 0) := by decide
theorem nums_pos {w w1 : World} {ao : Option Addr} {n cap : Nat} {m : Mp} {st frm en most : Int} (hM : MpAt w (.slice ao n cap) m)
    (hw : (((w.alloc (.cells #[.slice ao n cap] 23)).alloc (.cells #[.int .i64 st] 3)).alloc (.cells #[.int .i64 frm] 3)).alloc (.cells #[.int .i64 en] 3) = w1)
    (hst0 : 0 ≤ st) (hst1 : st ≤ 1000) (hf0 : 0 ≤ frm) (hf1 : frm ≤ 1000000) (he0 : 0 ≤ en) (he1 : en ≤ 1000000) (hm : m.length ≤ 1000) (hmx : ∀ x ∈ m, x.1 ≤ 1000000)
    (hl : ((mpos m st frm en).length : Int) ≤ most) (hmo : most ≤ 1000) :
    Calls Tryd.prog 21 #[.func (.func 34) #[] #[.pointer (some ⟨w.heap.size, 0, none⟩), .pointer (some ⟨w.heap.size + 3, 0, none⟩), .pointer (some ⟨w.heap.size + 1, 0, none⟩), .pointer (some ⟨w.heap.size + 2, 0, none⟩)], .int .i64 most] w1 fun e w' => ∃ ao ac, e = .returned (.tuple #[.slice ao (mpos m st frm en).length ac, .bool true]) ∧ Ow w1 w' 3 1 (.slice ao (mpos m st frm en).length ac) (mpos m st frm en).length ((mpos m st frm en).map (Value.int .i64)) := by
  have hfr : Fr no w w1 := by rw [← hw]; exact ((((Fr.refl no w).alloc _).alloc _).alloc _).alloc _
  have hPs : PsPre w.heap.size (w.heap.size + 3) (w.heap.size + 1) (w.heap.size + 2) (.slice ao n cap) m st frm en w1 := by
    have k0 : w1.heap[w.heap.size]? = some (.cells #[.slice ao n cap] 23 (0, 0)) := by rw [← hw]; simp only [alloc_get, World.size_alloc, Nat.add_assoc]; simp
    have k1 : w1.heap[w.heap.size + 1]? = some (.cells #[.int .i64 st] 3 (0, 0)) := by rw [← hw]; simp only [alloc_get, World.size_alloc, Nat.add_assoc]; simp
    have k2 : w1.heap[w.heap.size + 2]? = some (.cells #[.int .i64 frm] 3 (0, 0)) := by rw [← hw]; simp only [alloc_get, World.size_alloc, Nat.add_assoc]; simp
    have k3 : w1.heap[w.heap.size + 3]? = some (.cells #[.int .i64 en] 3 (0, 0)) := by rw [← hw]; simp only [alloc_get, World.size_alloc, Nat.add_assoc]; simp
    exact ⟨cell_of_block k0 rfl, cell_of_block k3 rfl, cell_of_block k1 rfl, cell_of_block k2 rfl, hM.fr hfr (fun _ _ _ f => f)⟩
  exact law_nums (Pre := PsPre w.heap.size (w.heap.size + 3) (w.heap.size + 1) (w.heap.size + 2) (.slice ao n cap) m st frm en) (mpos m st frm en) most w1 (pos_not_nil _ _ _ _) (enters_of Tryd.func34 (by kernel_rfl) rfl)
    (positions_iter _ _ _ _ _ m st frm en hst0 hst1 hf0 hf1 he0 he1 hm hmx) (fun W hf => hPs.fr hf) hl hmo
set_option maxRecDepth 100000 in
set_option maxHeartbeats 4000000 in
theorem mknown (w : World) (hG : Gl w) : Calls Tryd.prog 8 #[] w fun e w' => e = .returned (.bool true) ∧ Fr no w w' := by
  have HG := Lib.hid hG
  clear hG
  have F : Hid (Fr no w (w.alloc (.cells #[.int .i64 0, .int .i64 2] 48))) := Lib.hid ((Fr.refl no w).alloc _)
  go_enter Tryd.func8, Tryd.ntmps8
  go_wp2_with fail
  have hc := (m_add _ [(0, 2)] 5 3 _ (mp_lit1 w 48 0 2) (by decide))
  rw [kadd] at hc
  refine hc.mono ?_
  clear hc
  rintro e w' ⟨v', rfl, hm⟩
  obtain ⟨Mo, Mc, rfl, _, _⟩ := hm.cap
  have hx := hm.rd
  have hfd := hm.fr
  replace F := Lib.hid (F.out.trans' hfd)
  have M := Lib.hid hx
  clear hm hx hfd
  replace M : Hid (MpAt _ (.slice Mo 2 Mc) [(0, 2), (5, 3)]) := M
  go_wp2_with fail
  have hc := (m_find _ _ 6 _ M.out (by decide) (by decide))
  rw [kfind6] at hc
  refine hc.mono ?_
  clear hc
  rintro e w' ⟨rfl, hfd⟩
  replace M := Lib.hid (M.out.fr hfd (fun _ _ _ f => f))
  replace F := Lib.hid (F.out.trans' hfd)
  clear hfd
  go_wp2_with fail
  have hc := (m_find _ _ 4 _ M.out (by decide) (by decide))
  rw [kfind4] at hc
  refine hc.mono ?_
  clear hc
  rintro e w' ⟨rfl, hfd⟩
  replace M := Lib.hid (M.out.fr hfd (fun _ _ _ f => f))
  replace F := Lib.hid (F.out.trans' hfd)
  clear hfd
  go_wp2_with fail
  refine (m_positions _ _ _ _ _ _ _).mono ?_
  rintro e w1 ⟨rfl, hw⟩
  have hc := nums_pos M.out hw (by decide) (by decide) (by decide) (by decide) (by decide) (by decide) (by decide) (by decide) (most := 20) (by rw [kpos]; decide) (by decide)
  rw [kpos] at hc
  have hfd : Fr no w' w1 := by rw [← hw]; exact ((((Fr.refl no w').alloc _).alloc _).alloc _).alloc _
  replace M := Lib.hid (M.out.fr hfd (fun _ _ _ f => f))
  replace F := Lib.hid (F.out.trans' hfd)
  clear hw hfd
  generalize w'.heap.size = gx at *
  go_wp2_with fail
  refine hc.mono ?_
  clear hc
  rintro e w' ⟨Lo, Lc, rfl, hm⟩
  have L : Hid (Rd w' 1 (.slice Lo 4 Lc) 4 ([(1 : Int), 3, 6, 9].map (Value.int .i64))) := Lib.hid hm.rd
  have hfd := hm.fr
  replace M := Lib.hid (M.out.fr hfd (fun _ _ _ f => f))
  replace F := Lib.hid (F.out.trans' hfd)
  clear hm hfd
  go_wp2_with fail
  have hc := (m_parse ⟨#[48, 47, 50, 32, 53, 47, 51]⟩ _ (by decide) (HG.out.fr F.out))
  rw [show mparse (⟨#[48, 47, 50, 32, 53, 47, 51]⟩ : ByteArray).data.toList = ([(0, 2), (5, 3)], 0) from kparse] at hc
  refine hc.mono ?_
  clear hc
  rintro e w' ⟨v', rfl, hm⟩
  obtain ⟨Po, Pc, rfl, _, _⟩ := hm.cap
  have hx := hm.rd
  have hfd := hm.fr
  replace M := Lib.hid (M.out.fr hfd (fun _ _ _ f => f))
  replace L := Lib.hid (L.out.fr hfd (fun _ _ _ f => f))
  replace F := Lib.hid (F.out.trans' hfd)
  have P := Lib.hid hx
  clear hm hx hfd
  replace P : Hid (MpAt _ (.slice Po 2 Pc) [(0, 2), (5, 3)]) := P
  go_wp2_with fail
  have hc := (m_add _ _ 4 1 _ M.out (by decide))
  rw [kadd2] at hc
  refine hc.mono ?_
  clear hc
  rintro e w' ⟨v', rfl, hm⟩
  obtain ⟨No, Nc, rfl, _, _⟩ := hm.cap
  have hx := hm.rd
  have hfd := hm.fr
  replace M := Lib.hid (M.out.fr hfd (fun _ _ _ f => f))
  replace L := Lib.hid (L.out.fr hfd (fun _ _ _ f => f))
  replace P := Lib.hid (P.out.fr hfd (fun _ _ _ f => f))
  replace F := Lib.hid (F.out.trans' hfd)
  have N := Lib.hid hx
  clear hm hx hfd
  clear N
  go_wp2_with fail
  have hfl : Fr no w' (w'.alloc (.cells #[.int .i64 1, .int .i64 3, .int .i64 6, .int .i64 9] 3)) := (Fr.refl no _).alloc _
  have hc := law_ints (.slice Lo 4 Lc) (.slice (some ⟨w'.heap.size, 0, none⟩) 4 4) ([1, 3, 6, 9] : List Int) ([1, 3, 6, 9] : List Int) (w'.alloc (.cells #[.int .i64 1, .int .i64 3, .int .i64 6, .int .i64 9] 3)) (L.out.fr hfl (fun _ _ _ f => f)) (rd_lit w' 3 [.int .i64 1, .int .i64 3, .int .i64 6, .int .i64 9] (by decide))
  rw [show decide (([1, 3, 6, 9] : List Int) = ([1, 3, 6, 9] : List Int)) = true by decide] at hc
  refine hc.mono ?_
  clear hc
  rintro e w9 ⟨rfl, hfe⟩
  have hfd := hfl.trans' hfe
  replace F := Lib.hid (F.out.trans' hfd)
  replace P := Lib.hid (P.out.fr hfd (fun _ _ _ f => f))
  clear hfl hfe hfd L M
  go_wp2_with fail
  have hc := m_text (.slice Po 2 Pc) [(0, 2), (5, 3)] w9 P.out (by decide) (by intro x hx; simp at hx; rcases hx with rfl | rfl <;> decide) (HG.out.fr F.out)
  rw [ktext] at hc
  obtain ⟨r1, hr1⟩ : ∃ r : ByteArray, ⟨([48, 47, 50, 32, 53, 47, 51] : List UInt8).toArray⟩ = r := ⟨_, rfl⟩
  rw [hr1] at hc
  have q1 := bstrM _ _ hr1
  refine hc.mono ?_
  clear hc hr1
  rintro e w' ⟨rfl, hfd⟩
  replace F := Lib.hid (F.out.trans' hfd)
  clear hfd P
  go_wp2_with fail
  have hc := (m_check (.slice none 0 0) [] w' (Sl.nil w' 0 2).rd)
  rw [show mcheck [] = 1 by decide] at hc
  refine hc.mono ?_
  clear hc
  rintro e w' ⟨rfl, hfd⟩
  replace F := Lib.hid (F.out.trans' hfd)
  clear hfd
  go_wp2
  go_ret
  exact ⟨rfl, F.out⟩
end Go.Proofs.YtkdcldnbdhfobaaDoor
