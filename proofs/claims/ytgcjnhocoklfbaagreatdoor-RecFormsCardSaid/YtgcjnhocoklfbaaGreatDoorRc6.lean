/- The reference's ParseRec. -/
import Derived.Test.YtgcjnhocoklfbaaGreatDoorRcQ
import Derived.Test.YtgcjnhocoklfbaaGreatDoorRc3
import Derived.Test.YtgcjnhocoklfbaaGreatDoorRefW
import Derived.IntWalk
import Derived.RegionTactic
import Derived.BigRegion
namespace Go.XL
open Go.RowKit Go.Shelf
set_option linter.unusedVariables false
set_option linter.unusedSimpArgs false
theorem ext_mid (s : ByteArray) (u v w : List UInt8) (h : s.data.toList = u ++ (v ++ w)) : (s.extract u.length (u.length + v.length)).data.toList = v := by
  rw [ByteArray.data_extract, Array.toList_extract, List.extract_eq_take_drop, h, List.drop_left, show u.length + v.length - u.length = v.length by omega, List.take_left]
theorem ext_end (s : ByteArray) (u v : List UInt8) (h : s.data.toList = u ++ v) : (s.extract u.length s.size).data.toList = v := by
  rw [ByteArray.data_extract, Array.toList_extract, List.extract_eq_take_drop, h, List.drop_left, ← str_len, h]
  rw [List.take_of_length_le (by simp)]
theorem ext_mid2 (s : ByteArray) (u v w : List UInt8) (n m : Nat) (h : s.data.toList = u ++ (v ++ w)) (hn : u.length = n) (hm : n + v.length = m) : (s.extract n m).data.toList = v := by
  subst hn
  subst hm
  exact ext_mid s u v w h
theorem ext_end2 (s : ByteArray) (u v : List UInt8) (n : Nat) (h : s.data.toList = u ++ v) (hn : u.length = n) : (s.extract n s.size).data.toList = v := by
  subst hn
  exact ext_end s u v h
theorem get_mid2 (s : ByteArray) (u v : List UInt8) (c : UInt8) (n : Nat) (h : s.data.toList = u ++ c :: v) (hn : u.length = n) (hl : n < s.size) : s[n] = c := by
  subst hn
  obtain ⟨d, h1, h2⟩ := str_at s u.length hl
  rw [h1]
  rw [h] at h2
  simpa using h2.symm
theorem get_mid (s : ByteArray) (u v : List UInt8) (c : UInt8) (h : s.data.toList = u ++ c :: v) (hl : u.length < s.size) : s[u.length] = c := by
  obtain ⟨d, h1, h2⟩ := str_at s u.length hl
  rw [h1]
  rw [h] at h2
  simpa using h2.symm
end Go.XL
namespace Go.Proofs.YtgcjnhocoklfbaaGreatDoor
open Go.RowKit Go.Shelf Go.XL
set_option linter.unusedVariables false
set_option linter.unusedSimpArgs false
attribute [local go_sem] Oper.semAt_some
theorem rparse_res2 (tmps : Array Value) (gb : Nat) (w : World) (u0 u1 u2 u3 u4 e : Value) (h2 : tmps[2]? = some (.pointer (some ⟨gb, 0, none⟩))) (h3 : tmps[3]? = some e)
    (hb : w.heap[gb]? = some (.cells #[u0, u1, u2, u3, u4] 29 (0, 0))) : (results Tryz.f23 tmps).run Tryz.prog w = .ok (.tuple #[.agg #[u0, u1, u2, u3, u4], e]) w := by
  have y0 : w.cell? ⟨gb, 0, none⟩ = some u0 := cell_of_block hb rfl
  have y1 : w.cell? ⟨gb, 1, none⟩ = some u1 := cell_of_block hb rfl
  have y2 : w.cell? ⟨gb, 2, none⟩ = some u2 := cell_of_block hb rfl
  have y3 : w.cell? ⟨gb, 3, none⟩ = some u3 := cell_of_block hb rfl
  have y4 : w.cell? ⟨gb, 4, none⟩ = some u4 := cell_of_block hb rfl
  simp [results, Tryz.results23, go_sem, h2, h3, y0, y1, y2, y3, y4]
set_option maxRecDepth 10000 in
set_option maxHeartbeats 8000000 in
theorem ref_parserec (s : ByteArray) (w : World) (hs : s.size ≤ 100000) :
    Calls Tryz.prog 23 #[.string s] w fun e w' => ∃ r : Rc, e = .returned (.tuple #[r.v, .int .i64 (rparse s.data.toList).2]) ∧ RcIs w' r (rparse s.data.toList).1 ∧ Fr no w w' := by
  obtain ⟨w1, hw1⟩ : ∃ w1, w.alloc (.cells #[.int .i64 0, .int .i64 0, .slice none 0 0, .string ⟨#[]⟩, .string ⟨#[]⟩] 29) = w1 := ⟨_, rfl⟩
  have hf1 : Fr no w w1 := by rw [← hw1]; exact (Fr.refl no w).alloc _
  have hb1 : w1.heap[w.heap.size]? = some (.cells #[.int .i64 0, .int .i64 0, .slice none 0 0, .string ⟨#[]⟩, .string ⟨#[]⟩] 29 (0, 0)) := by rw [← hw1]; exact World.alloc_heap_new _ _
  obtain ⟨l, hl⟩ : ∃ l, s.data.toList = l := ⟨_, rfl⟩
  have hll : l.length = s.size := by rw [← hl, data_len]
  have hfind := fun (b : UInt8) (k : Nat) (hk : k ≤ 1099511627776) => ref_find s b k w1 (by omega) hk
  rw [hl] at hfind
  have F := Lib.hid hf1
  have BX := Lib.hid hb1
  have HW1 := Lib.hid hw1
  have HL := Lib.hid hl
  have HLL := Lib.hid hll
  have HFI := Lib.hid hfind
  rw [hl]
  clear hf1 hb1 hw1 hl hfind hll
  go_enter Tryz.func23, Tryz.ntmps23
  go_upto_region 1 with (fail)
  rw [HW1.out]
  clear HW1
  generalize hgb : w.heap.size = gb at *
  have HGB := Lib.hid hgb
  clear hgb
  rcases byte_split 58 l with hA | ⟨u1, v1, hl1, hA⟩
  · have HE := Lib.hid (rp_A hA)
    have Hf := Lib.hid (HFI.out 58 0 (by omega))
    rw [ffrom_none hA] at Hf
    clear hA
    go_wp2_with fail
    refine Hf.out.mono ?_
    rintro e w' ⟨rfl, rfl⟩
    obtain ⟨q0, q1, q2, q3, q4, hbF, hfF⟩ := store5 BX.out (.int .i64 0) (.int .i64 0) (.slice none 0 0) (.string ⟨#[]⟩) (.string ⟨#[]⟩)
    have HBF := Lib.hid hbF
    have HFF := Lib.hid hfF
    have r0 : w1.cell? ⟨gb, 0, none⟩ = some (.int .i64 0) := cell_of_block BX.out rfl
    have r1 : w1.cell? ⟨gb, 1, none⟩ = some (.int .i64 0) := cell_of_block BX.out rfl
    have r2 : w1.cell? ⟨gb, 2, none⟩ = some (.slice none 0 0) := cell_of_block BX.out rfl
    have r3 : w1.cell? ⟨gb, 3, none⟩ = some (.string ⟨#[]⟩) := cell_of_block BX.out rfl
    have r4 : w1.cell? ⟨gb, 4, none⟩ = some (.string ⟨#[]⟩) := cell_of_block BX.out rfl
    clear hbF hfF
    go_wp2
    refine bodyPost_ret (rparse_res2 _ gb _ _ _ _ _ _ _ rfl rfl HBF.out) rfl ?_
    exact ⟨⟨0, 0, .slice none 0 0, [], ⟨#[]⟩, ⟨#[]⟩⟩, by rw [HE.out]; rfl, by rw [HE.out]; exact rc_zero _, F.out.trans HFF.out (fun i hi e => by have := HGB.out; omega)⟩
  obtain ⟨a, ha⟩ : ∃ a, u1.length = a := ⟨_, rfl⟩
  have hfa : ffrom 58 l 0 = a := by rw [hl1, ffrom_split hA, ha]
  have Hf := Lib.hid (HFI.out 58 0 (by omega))
  rw [hfa] at Hf
  have has : a < s.size := by rw [← HLL.out, hl1, ← ha]; simp
  have HA1 := Lib.hid hA
  have HL1 := Lib.hid hl1
  have HA0 := Lib.hid ha
  clear hfa hA hl1 ha
  go_wp2_with fail
  refine Hf.out.mono ?_
  rintro e w' ⟨rfl, rfl⟩
  clear Hf
  rcases byte_split 32 v1 with hB | ⟨u2, v2, hl2, hB⟩
  · have HE : Hid (rparse l = rerr) := Lib.hid (by rw [HL1.out]; exact rp_B HA1.out hB)
    have hfb : ffrom 32 l a = -1 := by
      rw [HL1.out, ← HA0.out]
      exact ffrom_no (w := 58 :: v1) (fun c hc => by
        rcases List.mem_cons.1 hc with rfl | hc
        · decide
        · exact hB c hc)
    have Hf := Lib.hid (HFI.out 32 a (by omega))
    rw [hfb] at Hf
    clear hfb hB
    go_wp2_with fail
    refine Hf.out.mono ?_
    rintro e w' ⟨rfl, rfl⟩
    obtain ⟨q0, q1, q2, q3, q4, hbF, hfF⟩ := store5 BX.out (.int .i64 0) (.int .i64 0) (.slice none 0 0) (.string ⟨#[]⟩) (.string ⟨#[]⟩)
    have HBF := Lib.hid hbF
    have HFF := Lib.hid hfF
    have r0 : w1.cell? ⟨gb, 0, none⟩ = some (.int .i64 0) := cell_of_block BX.out rfl
    have r1 : w1.cell? ⟨gb, 1, none⟩ = some (.int .i64 0) := cell_of_block BX.out rfl
    have r2 : w1.cell? ⟨gb, 2, none⟩ = some (.slice none 0 0) := cell_of_block BX.out rfl
    have r3 : w1.cell? ⟨gb, 3, none⟩ = some (.string ⟨#[]⟩) := cell_of_block BX.out rfl
    have r4 : w1.cell? ⟨gb, 4, none⟩ = some (.string ⟨#[]⟩) := cell_of_block BX.out rfl
    clear hbF hfF
    go_wp2
    refine bodyPost_ret (rparse_res2 _ gb _ _ _ _ _ _ _ rfl rfl HBF.out) rfl ?_
    exact ⟨⟨0, 0, .slice none 0 0, [], ⟨#[]⟩, ⟨#[]⟩⟩, by rw [HE.out]; rfl, by rw [HE.out]; exact rc_zero _, F.out.trans HFF.out (fun i hi e => by have := HGB.out; omega)⟩
  have HL2 := Lib.hid hl2
  have HB1 := Lib.hid hB
  clear hl2 hB
  obtain ⟨b, hb⟩ : ∃ b, a + 1 + u2.length = b := ⟨_, rfl⟩
  have HLB : Hid (l = (u1 ++ 58 :: u2) ++ 32 :: v2) := Lib.hid (by rw [HL1.out, HL2.out]; simp)
  have HLBL : Hid ((u1 ++ 58 :: u2).length = b) := Lib.hid (by have := HA0.out; simp; omega)
  have hfb : ffrom 32 l a = b := by
    rw [HL1.out, HL2.out, ← HA0.out]
    rw [show 58 :: (u2 ++ 32 :: v2) = (58 :: u2) ++ 32 :: v2 from rfl, ffrom_at (fun c hc => by
      rcases List.mem_cons.1 hc with rfl | hc
      · decide
      · exact HB1.out c hc)]
    have := HA0.out
    simp; omega
  have Hf := Lib.hid (HFI.out 32 a (by omega))
  rw [hfb] at Hf
  have HLb : Hid (s.size = b + (v2.length + 1)) := Lib.hid (by have h := congrArg List.length HLB.out; rw [HLL.out, List.length_append, HLBL.out, List.length_cons] at h; exact h)
  have hbs : b < s.size := by have := HLb.out; omega
  have hab : a + 1 ≤ b := by omega
  have HBE := Lib.hid hb
  clear hfb hb
  go_wp2_with fail
  refine Hf.out.mono ?_
  rintro e w' ⟨rfl, rfl⟩
  clear Hf
  by_cases h91 : v2.head? = some 91
  rotate_left
  · have HE : Hid (rparse l = rerr) := Lib.hid (by rw [HL1.out, HL2.out]; exact rp_C HA1.out HB1.out h91)
    cases v2 with
    | nil =>
      have z2 : (s.size : Int) ≤ (b : Int) + 1 := by rw [HLb.out]; simp
      clear h91
      obtain ⟨q0, q1, q2, q3, q4, hbF, hfF⟩ := store5 BX.out (.int .i64 0) (.int .i64 0) (.slice none 0 0) (.string ⟨#[]⟩) (.string ⟨#[]⟩)
      have HBF := Lib.hid hbF
      have HFF := Lib.hid hfF
      have r0 : w1.cell? ⟨gb, 0, none⟩ = some (.int .i64 0) := cell_of_block BX.out rfl
      have r1 : w1.cell? ⟨gb, 1, none⟩ = some (.int .i64 0) := cell_of_block BX.out rfl
      have r2 : w1.cell? ⟨gb, 2, none⟩ = some (.slice none 0 0) := cell_of_block BX.out rfl
      have r3 : w1.cell? ⟨gb, 3, none⟩ = some (.string ⟨#[]⟩) := cell_of_block BX.out rfl
      have r4 : w1.cell? ⟨gb, 4, none⟩ = some (.string ⟨#[]⟩) := cell_of_block BX.out rfl
      clear hbF hfF
      go_wp2
      refine bodyPost_ret (rparse_res2 _ gb _ _ _ _ _ _ _ rfl rfl HBF.out) rfl ?_
      exact ⟨⟨0, 0, .slice none 0 0, [], ⟨#[]⟩, ⟨#[]⟩⟩, by rw [HE.out]; rfl, by rw [HE.out]; exact rc_zero _, F.out.trans HFF.out (fun i hi e => by have := HGB.out; omega)⟩
    | cons c r =>
      have hne2 : c.toNat ≠ 91 := fun e => h91 (by rw [show c = 91 from UInt8.toNat_inj.1 (by rw [e]; rfl)]; rfl)
      have hb1 : b + 1 < s.size := by rw [HLb.out, List.length_cons]; omega
      have hg : s[b + 1] = c :=
        get_mid2 s ((u1 ++ 58 :: u2) ++ [32]) r c (b + 1) (by rw [HL.out, HLB.out]; simp) (by rw [List.length_append, HLBL.out]; rfl) hb1
      have z2 : ¬ (s.size : Int) ≤ (b : Int) + 1 := by omega
      have z3 : ((c.toNat : Int) != 91) = true := by rw [bne_iff_ne]; omega
      clear h91 hne2
      obtain ⟨q0, q1, q2, q3, q4, hbF, hfF⟩ := store5 BX.out (.int .i64 0) (.int .i64 0) (.slice none 0 0) (.string ⟨#[]⟩) (.string ⟨#[]⟩)
      have HBF := Lib.hid hbF
      have HFF := Lib.hid hfF
      have r0 : w1.cell? ⟨gb, 0, none⟩ = some (.int .i64 0) := cell_of_block BX.out rfl
      have r1 : w1.cell? ⟨gb, 1, none⟩ = some (.int .i64 0) := cell_of_block BX.out rfl
      have r2 : w1.cell? ⟨gb, 2, none⟩ = some (.slice none 0 0) := cell_of_block BX.out rfl
      have r3 : w1.cell? ⟨gb, 3, none⟩ = some (.string ⟨#[]⟩) := cell_of_block BX.out rfl
      have r4 : w1.cell? ⟨gb, 4, none⟩ = some (.string ⟨#[]⟩) := cell_of_block BX.out rfl
      clear hbF hfF
      go_wp2
      refine bodyPost_ret (rparse_res2 _ gb _ _ _ _ _ _ _ rfl rfl HBF.out) rfl ?_
      exact ⟨⟨0, 0, .slice none 0 0, [], ⟨#[]⟩, ⟨#[]⟩⟩, by rw [HE.out]; rfl, by rw [HE.out]; exact rc_zero _, F.out.trans HFF.out (fun i hi e => by have := HGB.out; omega)⟩
  obtain ⟨v3, hv3⟩ : ∃ r, v2 = 91 :: r := by
    cases v2 with
    | nil => cases h91
    | cons c r => exact ⟨r, by simp at h91; rw [h91]⟩
  have HV3 := Lib.hid hv3
  have hb1 : b + 1 < s.size := by rw [HLb.out, hv3, List.length_cons]; omega
  have hg91 : s[b + 1] = 91 :=
    get_mid2 s ((u1 ++ 58 :: u2) ++ [32]) v3 91 (b + 1) (by rw [HL.out, HLB.out, hv3]; simp) (by rw [List.length_append, HLBL.out]; rfl) hb1
  have z2 : ¬ (s.size : Int) ≤ (b : Int) + 1 := by omega
  clear h91 hv3
  rcases byte_split 93 v2 with hC | ⟨u3, v4, hl3, hC⟩
  · have HE : Hid (rparse l = rerr) := Lib.hid (by rw [HL1.out, HL2.out]; exact rp_D HA1.out HB1.out hC)
    have hfc : ffrom 93 l b = -1 := by
      rw [HLB.out, ← HLBL.out]
      exact ffrom_no (w := 32 :: v2) (fun c hc => by
        rcases List.mem_cons.1 hc with rfl | hc
        · decide
        · exact hC c hc)
    have Hf := Lib.hid (HFI.out 93 b (by omega))
    rw [hfc] at Hf
    clear hfc hC
    go_wp2_with fail
    refine Hf.out.mono ?_
    rintro e w' ⟨rfl, rfl⟩
    obtain ⟨q0, q1, q2, q3, q4, hbF, hfF⟩ := store5 BX.out (.int .i64 0) (.int .i64 0) (.slice none 0 0) (.string ⟨#[]⟩) (.string ⟨#[]⟩)
    have HBF := Lib.hid hbF
    have HFF := Lib.hid hfF
    have r0 : w1.cell? ⟨gb, 0, none⟩ = some (.int .i64 0) := cell_of_block BX.out rfl
    have r1 : w1.cell? ⟨gb, 1, none⟩ = some (.int .i64 0) := cell_of_block BX.out rfl
    have r2 : w1.cell? ⟨gb, 2, none⟩ = some (.slice none 0 0) := cell_of_block BX.out rfl
    have r3 : w1.cell? ⟨gb, 3, none⟩ = some (.string ⟨#[]⟩) := cell_of_block BX.out rfl
    have r4 : w1.cell? ⟨gb, 4, none⟩ = some (.string ⟨#[]⟩) := cell_of_block BX.out rfl
    clear hbF hfF
    go_wp2
    refine bodyPost_ret (rparse_res2 _ gb _ _ _ _ _ _ _ rfl rfl HBF.out) rfl ?_
    exact ⟨⟨0, 0, .slice none 0 0, [], ⟨#[]⟩, ⟨#[]⟩⟩, by rw [HE.out]; rfl, by rw [HE.out]; exact rc_zero _, F.out.trans HFF.out (fun i hi e => by have := HGB.out; omega)⟩
  have hu3 : u3 ≠ [] := by
    rintro rfl
    have := HV3.out
    rw [this] at hl3
    simp at hl3
  have HU3 := Lib.hid hu3
  have HL3 := Lib.hid hl3
  have HC1 := Lib.hid hC
  clear hu3 hl3 hC
  obtain ⟨c, hc⟩ : ∃ c, b + 1 + u3.length = c := ⟨_, rfl⟩
  have HLC : Hid (l = ((u1 ++ 58 :: u2) ++ 32 :: u3) ++ 93 :: v4) := Lib.hid (by rw [HLB.out, HL3.out]; simp)
  have HLCL : Hid (((u1 ++ 58 :: u2) ++ 32 :: u3).length = c) := Lib.hid (by rw [List.length_append, HLBL.out]; simp; omega)
  have hfc : ffrom 93 l b = c := by
    rw [HLB.out, HL3.out, ← HLBL.out]
    rw [show 32 :: (u3 ++ 93 :: v4) = (32 :: u3) ++ 93 :: v4 from rfl, ffrom_at (fun c hc => by
      rcases List.mem_cons.1 hc with rfl | hc
      · decide
      · exact HC1.out c hc)]
    rw [HLBL.out]; simp; omega
  have Hf := Lib.hid (HFI.out 93 b (by omega))
  rw [hfc] at Hf
  have HLc : Hid (s.size = c + (v4.length + 1)) := Lib.hid (by have h := congrArg List.length HLC.out; rw [HLL.out, List.length_append, HLCL.out, List.length_cons] at h; exact h)
  have hcs : c < s.size := by have := HLc.out; omega
  have hbc : b + 1 ≤ c := by omega
  have HCE := Lib.hid hc
  clear hfc hc
  go_wp2_with fail
  refine Hf.out.mono ?_
  rintro e w' ⟨rfl, rfl⟩
  clear Hf
  by_cases h32 : v4.head? = some 32
  rotate_left
  · have HE : Hid (rparse l = rerr) := Lib.hid (by rw [HL1.out, HL2.out, HL3.out]; exact rp_E HA1.out HB1.out HC1.out HU3.out h32)
    cases v4 with
    | nil =>
      have z4 : (s.size : Int) ≤ (c : Int) + 1 := by rw [HLc.out]; simp
      clear h32
      obtain ⟨q0, q1, q2, q3, q4, hbF, hfF⟩ := store5 BX.out (.int .i64 0) (.int .i64 0) (.slice none 0 0) (.string ⟨#[]⟩) (.string ⟨#[]⟩)
      have HBF := Lib.hid hbF
      have HFF := Lib.hid hfF
      have r0 : w1.cell? ⟨gb, 0, none⟩ = some (.int .i64 0) := cell_of_block BX.out rfl
      have r1 : w1.cell? ⟨gb, 1, none⟩ = some (.int .i64 0) := cell_of_block BX.out rfl
      have r2 : w1.cell? ⟨gb, 2, none⟩ = some (.slice none 0 0) := cell_of_block BX.out rfl
      have r3 : w1.cell? ⟨gb, 3, none⟩ = some (.string ⟨#[]⟩) := cell_of_block BX.out rfl
      have r4 : w1.cell? ⟨gb, 4, none⟩ = some (.string ⟨#[]⟩) := cell_of_block BX.out rfl
      clear hbF hfF
      go_wp2
      refine bodyPost_ret (rparse_res2 _ gb _ _ _ _ _ _ _ rfl rfl HBF.out) rfl ?_
      exact ⟨⟨0, 0, .slice none 0 0, [], ⟨#[]⟩, ⟨#[]⟩⟩, by rw [HE.out]; rfl, by rw [HE.out]; exact rc_zero _, F.out.trans HFF.out (fun i hi e => by have := HGB.out; omega)⟩
    | cons x r =>
      have hne2 : x.toNat ≠ 32 := fun e => h32 (by rw [show x = 32 from UInt8.toNat_inj.1 (by rw [e]; rfl)]; rfl)
      have hc1 : c + 1 < s.size := by rw [HLc.out, List.length_cons]; omega
      have hg : s[c + 1] = x :=
        get_mid2 s (((u1 ++ 58 :: u2) ++ 32 :: u3) ++ [93]) r x (c + 1) (by rw [HL.out, HLC.out]; simp) (by rw [List.length_append, HLCL.out]; rfl) hc1
      have z4 : ¬ (s.size : Int) ≤ (c : Int) + 1 := by omega
      have z5 : ((x.toNat : Int) != 32) = true := by rw [bne_iff_ne]; omega
      clear h32 hne2
      obtain ⟨q0, q1, q2, q3, q4, hbF, hfF⟩ := store5 BX.out (.int .i64 0) (.int .i64 0) (.slice none 0 0) (.string ⟨#[]⟩) (.string ⟨#[]⟩)
      have HBF := Lib.hid hbF
      have HFF := Lib.hid hfF
      have r0 : w1.cell? ⟨gb, 0, none⟩ = some (.int .i64 0) := cell_of_block BX.out rfl
      have r1 : w1.cell? ⟨gb, 1, none⟩ = some (.int .i64 0) := cell_of_block BX.out rfl
      have r2 : w1.cell? ⟨gb, 2, none⟩ = some (.slice none 0 0) := cell_of_block BX.out rfl
      have r3 : w1.cell? ⟨gb, 3, none⟩ = some (.string ⟨#[]⟩) := cell_of_block BX.out rfl
      have r4 : w1.cell? ⟨gb, 4, none⟩ = some (.string ⟨#[]⟩) := cell_of_block BX.out rfl
      clear hbF hfF
      go_wp2
      refine bodyPost_ret (rparse_res2 _ gb _ _ _ _ _ _ _ rfl rfl HBF.out) rfl ?_
      exact ⟨⟨0, 0, .slice none 0 0, [], ⟨#[]⟩, ⟨#[]⟩⟩, by rw [HE.out]; rfl, by rw [HE.out]; exact rc_zero _, F.out.trans HFF.out (fun i hi e => by have := HGB.out; omega)⟩
  obtain ⟨v5, hv5⟩ : ∃ r, v4 = 32 :: r := by
    cases v4 with
    | nil => cases h32
    | cons c r => exact ⟨r, by simp at h32; rw [h32]⟩
  have HV5 := Lib.hid hv5
  have hc1 : c + 1 < s.size := by rw [HLc.out, hv5, List.length_cons]; omega
  have hg32 : s[c + 1] = 32 :=
    get_mid2 s (((u1 ++ 58 :: u2) ++ 32 :: u3) ++ [93]) v5 32 (c + 1) (by rw [HL.out, HLC.out, hv5]; simp) (by rw [List.length_append, HLCL.out]; rfl) hc1
  have z4 : ¬ (s.size : Int) ≤ (c : Int) + 1 := by omega
  clear h32 hv5
  rcases byte_split 61 v5 with hD | ⟨key, val, hl5, hD⟩
  · have HE : Hid (rparse l = rerr) := Lib.hid (by rw [HL1.out, HL2.out, HL3.out, HV5.out]; exact rp_F HA1.out HB1.out HC1.out hD)
    have hfd : ffrom 61 l c = -1 := by
      rw [HLC.out, ← HLCL.out, HV5.out]
      exact ffrom_no (w := 93 :: 32 :: v5) (fun c hc => by
        rcases List.mem_cons.1 hc with rfl | hc
        · decide
        · rcases List.mem_cons.1 hc with rfl | hc
          · decide
          · exact hD c hc)
    have Hf := Lib.hid (HFI.out 61 c (by omega))
    rw [hfd] at Hf
    clear hfd hD
    go_wp2_with fail
    refine Hf.out.mono ?_
    rintro e w' ⟨rfl, rfl⟩
    obtain ⟨q0, q1, q2, q3, q4, hbF, hfF⟩ := store5 BX.out (.int .i64 0) (.int .i64 0) (.slice none 0 0) (.string ⟨#[]⟩) (.string ⟨#[]⟩)
    have HBF := Lib.hid hbF
    have HFF := Lib.hid hfF
    have r0 : w1.cell? ⟨gb, 0, none⟩ = some (.int .i64 0) := cell_of_block BX.out rfl
    have r1 : w1.cell? ⟨gb, 1, none⟩ = some (.int .i64 0) := cell_of_block BX.out rfl
    have r2 : w1.cell? ⟨gb, 2, none⟩ = some (.slice none 0 0) := cell_of_block BX.out rfl
    have r3 : w1.cell? ⟨gb, 3, none⟩ = some (.string ⟨#[]⟩) := cell_of_block BX.out rfl
    have r4 : w1.cell? ⟨gb, 4, none⟩ = some (.string ⟨#[]⟩) := cell_of_block BX.out rfl
    clear hbF hfF
    go_wp2
    refine bodyPost_ret (rparse_res2 _ gb _ _ _ _ _ _ _ rfl rfl HBF.out) rfl ?_
    exact ⟨⟨0, 0, .slice none 0 0, [], ⟨#[]⟩, ⟨#[]⟩⟩, by rw [HE.out]; rfl, by rw [HE.out]; exact rc_zero _, F.out.trans HFF.out (fun i hi e => by have := HGB.out; omega)⟩
  have HL5 := Lib.hid hl5
  have HD1 := Lib.hid hD
  clear hl5 hD
  obtain ⟨d, hd⟩ : ∃ d, c + 2 + key.length = d := ⟨_, rfl⟩
  have HLD : Hid (l = (((u1 ++ 58 :: u2) ++ 32 :: u3) ++ 93 :: 32 :: key) ++ 61 :: val) := Lib.hid (by rw [HLC.out, HV5.out, HL5.out]; simp)
  have HLDL : Hid ((((u1 ++ 58 :: u2) ++ 32 :: u3) ++ 93 :: 32 :: key).length = d) := Lib.hid (by rw [List.length_append, HLCL.out]; simp; omega)
  have hfd : ffrom 61 l c = d := by
    rw [HLC.out, ← HLCL.out, HV5.out, HL5.out]
    rw [show 93 :: 32 :: (key ++ 61 :: val) = (93 :: 32 :: key) ++ 61 :: val from rfl, ffrom_at (fun c hc => by
      rcases List.mem_cons.1 hc with rfl | hc
      · decide
      · rcases List.mem_cons.1 hc with rfl | hc
        · decide
        · exact HD1.out c hc)]
    rw [HLCL.out]; simp; omega
  have Hf := Lib.hid (HFI.out 61 c (by omega))
  rw [hfd] at Hf
  have HLd : Hid (s.size = d + (val.length + 1)) := Lib.hid (by have h := congrArg List.length HLD.out; rw [HLL.out, List.length_append, HLDL.out, List.length_cons] at h; exact h)
  have hds : d < s.size := by have := HLd.out; omega
  have hcd : c + 2 ≤ d := by omega
  have e1 : (s.extract 0 a).data.toList = u1 := ext_mid2 s [] u1 (58 :: v1) 0 a (by rw [HL.out, HL1.out]; rfl) rfl (by rw [Nat.zero_add]; exact HA0.out)
  have e2 : (s.extract (a + 1) b).data.toList = u2 := ext_mid2 s (u1 ++ [58]) u2 (32 :: v2) _ _ (by rw [HL.out, HLB.out]; simp) (by rw [List.length_append, HA0.out]; rfl) HBE.out
  have e3 : (s.extract (b + 1) (c + 1)).data.toList = u3 ++ [93] := ext_mid2 s ((u1 ++ 58 :: u2) ++ [32]) (u3 ++ [93]) v4 _ _ (by rw [HL.out, HLC.out]; simp) (by rw [List.length_append, HLBL.out]; rfl) (by have := HCE.out; rw [List.length_append, List.length_singleton]; omega)
  have e4 : (s.extract (c + 2) d).data.toList = key := ext_mid2 s (((u1 ++ 58 :: u2) ++ 32 :: u3) ++ [93, 32]) key (61 :: val) _ _ (by rw [HL.out, HLD.out]; simp) (by rw [List.length_append, HLCL.out]; rfl) hd
  have e5 : (s.extract (d + 1) s.size).data.toList = val := ext_end2 s ((((u1 ++ 58 :: u2) ++ 32 :: u3) ++ 93 :: 32 :: key) ++ [61]) val _ (by rw [HL.out, HLD.out]; simp) (by rw [List.length_append, HLDL.out]; rfl)
  have lk : key.length ≤ 100000 := by omega
  have lv : val.length ≤ 100000 := by have := HLd.out; omega
  have lu1 : u1.length ≤ 100000 := by have := HA0.out; omega
  have lu2 : u2.length ≤ 100000 := by have := HBE.out; omega
  have lu3 : u3.length + 1 ≤ 100000 := by have := HCE.out; omega
  obtain ⟨T1, hT1⟩ : ∃ A, s.extract 0 a = A := ⟨_, rfl⟩
  obtain ⟨T2, hT2⟩ : ∃ A, s.extract (a + 1) b = A := ⟨_, rfl⟩
  obtain ⟨T3, hT3⟩ : ∃ A, s.extract (b + 1) (c + 1) = A := ⟨_, rfl⟩
  obtain ⟨T4, hT4⟩ : ∃ A, s.extract (c + 2) d = A := ⟨_, rfl⟩
  obtain ⟨T5, hT5⟩ : ∃ A, s.extract (d + 1) s.size = A := ⟨_, rfl⟩
  rw [hT1] at e1
  rw [hT2] at e2
  rw [hT3] at e3
  rw [hT4] at e4
  rw [hT5] at e5
  have zt1 : T1.size ≤ 100000 := by rw [← data_len, e1]; exact lu1
  have zt2 : T2.size ≤ 100000 := by rw [← data_len, e2]; exact lu2
  have zt3 : T3.size ≤ 100000 := by rw [← data_len, e3]; simpa using lu3
  have zt4 : T4.size ≤ 100000 := by rw [← data_len, e4]; exact lk
  have zt5 : T5.size ≤ 100000 := by rw [← data_len, e5]; exact lv
  have hnum : ((rnum u1).2 = false ∨ (rnum u2).2 = false) → rparse l = rerr := fun h => by rw [HL1.out, HL2.out, HL3.out, HV5.out, HL5.out]; exact rp_num HA1.out HB1.out HC1.out HD1.out h
  have hok : (rnum u1).2 = true → (rnum u2).2 = true → rparse l = (if (vparse (u3 ++ [93])).2 ≠ 0 then (Rp.zero, (vparse (u3 ++ [93])).2)
    else if rcheck (rnum u1).1 (rnum u2).1 (vparse (u3 ++ [93])).1 key val 8 ≠ 0 then (Rp.zero, rcheck (rnum u1).1 (rnum u2).1 (vparse (u3 ++ [93])).1 key val 8)
    else (⟨(rnum u1).1, (rnum u2).1, (vparse (u3 ++ [93])).1, key, val⟩, 0)) := fun n1 n2 => by
    have e := rp_ok (val := val) HA1.out HB1.out HC1.out HD1.out n1 n2
    rw [← e]
    rw [HL1.out, HL2.out, HL3.out, HV5.out, HL5.out]
  have n1 := ref_number T1 w1 (by omega)
  have n2 := ref_number T2 w1 (by omega)
  rw [e1] at n1
  rw [e2] at n2
  obtain ⟨x, f1, hx⟩ : ∃ x f, rnum u1 = (x, f) := ⟨_, _, rfl⟩
  obtain ⟨y, f2, hy⟩ : ∃ x f, rnum u2 = (x, f) := ⟨_, _, rfl⟩
  rw [hx] at n1 hnum hok
  rw [hy] at n2 hnum hok
  dsimp only at n1 n2 hnum hok
  have N1 := Lib.hid n1
  have N2 := Lib.hid n2
  have HNUM := Lib.hid hnum
  have HOK := Lib.hid hok
  have E3 := Lib.hid e3
  have E4 := Lib.hid e4
  have E5 := Lib.hid e5
  clear n1 n2 hnum hok e1 e2 e3 e4 e5 hd lk lv lu1 lu2 lu3 hx hy hfd HA1 HB1 HC1 HD1 HL1 HL2 HL3 HL5 HV3 HV5 HLB HLC HLD HLBL HLCL HLDL HLb HLc HLd HA0 HBE HCE HU3 HFI HLL
  go_wp2_with fail
  refine Hf.out.mono ?_
  rintro e w' ⟨rfl, rfl⟩
  clear Hf
  go_wp2_with fail
  refine N1.out.mono ?_
  rintro e w' ⟨rfl, rfl⟩
  go_wp2_with fail
  refine N2.out.mono ?_
  rintro e w' ⟨rfl, rfl⟩
  clear N1 N2
  cases f1 with
  | false =>
    have HE := Lib.hid (HNUM.out (.inl rfl))
    obtain ⟨q0, q1, q2, q3, q4, hbF, hfF⟩ := store5 BX.out (.int .i64 0) (.int .i64 0) (.slice none 0 0) (.string ⟨#[]⟩) (.string ⟨#[]⟩)
    have HBF := Lib.hid hbF
    have HFF := Lib.hid hfF
    have r0 : w1.cell? ⟨gb, 0, none⟩ = some (.int .i64 0) := cell_of_block BX.out rfl
    have r1 : w1.cell? ⟨gb, 1, none⟩ = some (.int .i64 0) := cell_of_block BX.out rfl
    have r2 : w1.cell? ⟨gb, 2, none⟩ = some (.slice none 0 0) := cell_of_block BX.out rfl
    have r3 : w1.cell? ⟨gb, 3, none⟩ = some (.string ⟨#[]⟩) := cell_of_block BX.out rfl
    have r4 : w1.cell? ⟨gb, 4, none⟩ = some (.string ⟨#[]⟩) := cell_of_block BX.out rfl
    clear hbF hfF
    go_wp2
    refine bodyPost_ret (rparse_res2 _ gb _ _ _ _ _ _ _ rfl rfl HBF.out) rfl ?_
    exact ⟨⟨0, 0, .slice none 0 0, [], ⟨#[]⟩, ⟨#[]⟩⟩, by rw [HE.out]; rfl, by rw [HE.out]; exact rc_zero _, F.out.trans HFF.out (fun i hi e => by have := HGB.out; omega)⟩
  | true =>
    cases f2 with
    | false =>
      have HE := Lib.hid (HNUM.out (.inr rfl))
      obtain ⟨q0, q1, q2, q3, q4, hbF, hfF⟩ := store5 BX.out (.int .i64 0) (.int .i64 0) (.slice none 0 0) (.string ⟨#[]⟩) (.string ⟨#[]⟩)
      have HBF := Lib.hid hbF
      have HFF := Lib.hid hfF
      have r0 : w1.cell? ⟨gb, 0, none⟩ = some (.int .i64 0) := cell_of_block BX.out rfl
      have r1 : w1.cell? ⟨gb, 1, none⟩ = some (.int .i64 0) := cell_of_block BX.out rfl
      have r2 : w1.cell? ⟨gb, 2, none⟩ = some (.slice none 0 0) := cell_of_block BX.out rfl
      have r3 : w1.cell? ⟨gb, 3, none⟩ = some (.string ⟨#[]⟩) := cell_of_block BX.out rfl
      have r4 : w1.cell? ⟨gb, 4, none⟩ = some (.string ⟨#[]⟩) := cell_of_block BX.out rfl
      clear hbF hfF
      go_wp2
      refine bodyPost_ret (rparse_res2 _ gb _ _ _ _ _ _ _ rfl rfl HBF.out) rfl ?_
      exact ⟨⟨0, 0, .slice none 0 0, [], ⟨#[]⟩, ⟨#[]⟩⟩, by rw [HE.out]; rfl, by rw [HE.out]; exact rc_zero _, F.out.trans HFF.out (fun i hi e => by have := HGB.out; omega)⟩
    | true =>
      have hR1 := HOK.out rfl rfl
      obtain ⟨vd, ve, hvp⟩ : ∃ a b, vparse (u3 ++ [93]) = (a, b) := ⟨_, _, rfl⟩
      rw [hvp] at hR1
      dsimp only at hR1
      have hc := ref_parse T3 w1 zt3
      rw [E3.out, hvp] at hc
      dsimp only at hc
      have Hc := Lib.hid hc
      have HR1 := Lib.hid hR1
      have hltb : gb < w1.heap.size := (Array.getElem?_eq_some_iff.1 BX.out).1
      clear hc hR1 hvp HNUM HOK E3
      go_wp2_with fail
      refine Hc.out.mono ?_
      clear Hc
      rintro e' w8 ⟨v', rfl, hm⟩
      obtain ⟨Vo, Vc, rfl, _, _⟩ := hm.cap
      have hv8 := hm.rd
      have hfd := hm.fr
      replace F := Lib.hid (F.out.trans' hfd)
      replace BX := Lib.hid (hfd.heap BX.out (fun f => f))
      have V8 : Hid (IntsAt w8 (.slice Vo vd.length Vc) vd) := Lib.hid hv8
      have HSAFE : Hid (∀ g, Value.ownBlock (.slice Vo vd.length Vc) = some g → g ≠ gb) := Lib.hid (fun g hg e => by have h1 := hm.fresh g hg; omega)
      clear hm hv8 hfd hltb
      by_cases hve : ve = 0
      · subst hve
        have hR2 : rparse l = (if rcheck x y vd key val 8 ≠ 0 then (Rp.zero, rcheck x y vd key val 8) else (⟨x, y, vd, key, val⟩, 0)) := by rw [HR1.out, if_neg (by decide)]
        have HR2 := Lib.hid hR2
        clear hR2 HR1
        have sl1 : ∀ W, (Instr.slice 9 (.string s) (some (.int .i64 ((c : Int) + 2))) (some (.int .i64 (d : Int))) none).run Tryz.prog W = .ok (.string T4) W := fun W => by
          have h := run_slice_string (P := Tryz.prog) (w := W) 9 s .i64 .i64 ((c : Int) + 2) (d : Int) Tryz.underlying9 (by omega) (by omega) (by omega)
          rw [show ((c : Int) + 2).toNat = c + 2 by omega, show (d : Int).toNat = d by omega, hT4] at h
          exact h
        have sl2 : ∀ W, (Instr.slice 9 (.string s) (some (.int .i64 ((d : Int) + 1))) none none).run Tryz.prog W = .ok (.string T5) W := fun W => by
          have h := run_slice_string_l (P := Tryz.prog) (w := W) (t := 9) (s := s) Tryz.underlying9 .i64 ((d : Int) + 1) (by omega) (by omega)
          rw [show ((d : Int) + 1).toNat = d + 1 by omega, hT5] at h
          exact h
        have hw1 : IntKind.i64.wrap ((c : Int) + 2) = (c : Int) + 2 := IntWalk.i64_in _ (by omega)
        have hw2 : IntKind.i64.wrap ((d : Int) + 1) = (d : Int) + 1 := IntWalk.i64_in _ (by omega)
        have hw3 : wrap64 ((c : Int) + 2) = (c : Int) + 2 := by unfold wrap64; omega
        have hw4 : wrap64 ((d : Int) + 1) = (d : Int) + 1 := by unfold wrap64; omega
        go_upto_region 20 with (fail)
        go_region
        obtain ⟨w9, hw9⟩ : ∃ w9, (w8.alloc (.cells #[.int .i64 x, .int .i64 y, .slice Vo vd.length Vc, .string T4, .string T5] 29)).drew = w9 := ⟨_, rfl⟩
        have hf9 : Fr no w8 w9 := by rw [← hw9]; exact ((Fr.refl no w8).alloc _).drewN 1
        have hb9 : w9.heap[w8.heap.size]? = some (.cells #[.int .i64 x, .int .i64 y, .slice Vo vd.length Vc, .string T4, .string T5] 29 (0, 0)) := by rw [← hw9]; exact World.alloc_heap_new _ _
        rw [hw9]
        clear hw9
        have F9 := Lib.hid (F.out.trans' hf9)
        have V9 := Lib.hid (V8.out.fr hf9 (fun _ _ _ f => f))
        have hc := ref_checkrec ⟨x, y, .slice Vo vd.length Vc, vd, T4, T5⟩ 8 w9 V9.out (by dsimp only; omega) (by dsimp only; omega)
        unfold Rc.v Rc.check at hc
        dsimp only at hc
        rw [E4.out, E5.out] at hc
        obtain ⟨ec, hec⟩ : ∃ ec, rcheck x y vd key val 8 = ec := ⟨_, rfl⟩
        rw [hec] at hc HR2
        have Hc := Lib.hid hc
        have HB9 := Lib.hid hb9
        have BX9 := Lib.hid (hf9.heap BX.out (fun f => f))
        clear hc hf9 hb9 hec F V8 BX
        generalize w8.heap.size = gc at *
        have t0 : w9.cell? ⟨gc, 0, none⟩ = some (.int .i64 x) := cell_of_block HB9.out rfl
        have t1 : w9.cell? ⟨gc, 1, none⟩ = some (.int .i64 y) := cell_of_block HB9.out rfl
        have t2 : w9.cell? ⟨gc, 2, none⟩ = some (.slice Vo vd.length Vc) := cell_of_block HB9.out rfl
        have t3 : w9.cell? ⟨gc, 3, none⟩ = some (.string T4) := cell_of_block HB9.out rfl
        have t4 : w9.cell? ⟨gc, 4, none⟩ = some (.string T5) := cell_of_block HB9.out rfl
        go_wp2_with fail
        refine Hc.out.mono ?_
        clear Hc
        rintro e' w10 ⟨rfl, hfd⟩
        have F := Lib.hid (F9.out.trans' hfd)
        have BX := Lib.hid (hfd.heap BX9.out (fun f => f))
        have HB10 := Lib.hid (hfd.heap HB9.out (fun f => f))
        have V10 := Lib.hid (V9.out.fr hfd (fun _ _ _ f => f))
        clear hfd F9 BX9 V9 HB9 t0 t1 t2 t3 t4
        by_cases hec : ec = 0
        · subst hec
          have hE : rparse l = (⟨x, y, vd, key, val⟩, 0) := by rw [HR2.out, if_neg (by decide)]
          have HE := Lib.hid hE
          clear hE HR2
          have t0 : w10.cell? ⟨gc, 0, none⟩ = some (.int .i64 x) := cell_of_block HB10.out rfl
          have t1 : w10.cell? ⟨gc, 1, none⟩ = some (.int .i64 y) := cell_of_block HB10.out rfl
          have t2 : w10.cell? ⟨gc, 2, none⟩ = some (.slice Vo vd.length Vc) := cell_of_block HB10.out rfl
          have t3 : w10.cell? ⟨gc, 3, none⟩ = some (.string T4) := cell_of_block HB10.out rfl
          have t4 : w10.cell? ⟨gc, 4, none⟩ = some (.string T5) := cell_of_block HB10.out rfl
          obtain ⟨q0, q1, q2, q3, q4, hbF, hfF⟩ := store5 BX.out (.int .i64 x) (.int .i64 y) (.slice Vo vd.length Vc) (.string T4) (.string T5)
          have HBF := Lib.hid hbF
          have HFF := Lib.hid hfF
          have r0 : w10.cell? ⟨gb, 0, none⟩ = some (.int .i64 0) := cell_of_block BX.out rfl
          have r1 : w10.cell? ⟨gb, 1, none⟩ = some (.int .i64 0) := cell_of_block BX.out rfl
          have r2 : w10.cell? ⟨gb, 2, none⟩ = some (.slice none 0 0) := cell_of_block BX.out rfl
          have r3 : w10.cell? ⟨gb, 3, none⟩ = some (.string ⟨#[]⟩) := cell_of_block BX.out rfl
          have r4 : w10.cell? ⟨gb, 4, none⟩ = some (.string ⟨#[]⟩) := cell_of_block BX.out rfl
          have hfw := F.out.trans HFF.out (fun i hi e => by have := HGB.out; omega)
          have HFW := Lib.hid hfw
          clear hbF hfF hfw
          go_wp2
          refine bodyPost_ret (rparse_res2 _ gb _ _ _ _ _ _ _ rfl rfl HBF.out) rfl ?_
          refine ⟨⟨x, y, .slice Vo vd.length Vc, vd, T4, T5⟩, by rw [HE.out]; rfl, ?_, HFW.out⟩
          rw [HE.out]
          refine ⟨?_, rfl, rfl, rfl, E4.out, E5.out⟩
          exact Rd.fr V10.out HFF.out (fun g hg hlt2 e => HSAFE.out g hg e)
        · have hne : (ec != 0) = true := by simpa using hec
          have hE : rparse l = (Rp.zero, ec) := by rw [HR2.out, if_pos hec]
          have HE := Lib.hid hE
          clear hE hec HR2
          obtain ⟨q0, q1, q2, q3, q4, hbF, hfF⟩ := store5 BX.out (.int .i64 0) (.int .i64 0) (.slice none 0 0) (.string ⟨#[]⟩) (.string ⟨#[]⟩)
          have HBF := Lib.hid hbF
          have HFF := Lib.hid hfF
          have r0 : w10.cell? ⟨gb, 0, none⟩ = some (.int .i64 0) := cell_of_block BX.out rfl
          have r1 : w10.cell? ⟨gb, 1, none⟩ = some (.int .i64 0) := cell_of_block BX.out rfl
          have r2 : w10.cell? ⟨gb, 2, none⟩ = some (.slice none 0 0) := cell_of_block BX.out rfl
          have r3 : w10.cell? ⟨gb, 3, none⟩ = some (.string ⟨#[]⟩) := cell_of_block BX.out rfl
          have r4 : w10.cell? ⟨gb, 4, none⟩ = some (.string ⟨#[]⟩) := cell_of_block BX.out rfl
          clear hbF hfF
          go_wp2
          refine bodyPost_ret (rparse_res2 _ gb _ _ _ _ _ _ _ rfl rfl HBF.out) rfl ?_
          exact ⟨⟨0, 0, .slice none 0 0, [], ⟨#[]⟩, ⟨#[]⟩⟩, by rw [HE.out]; rfl, by rw [HE.out]; exact rc_zero _, F.out.trans HFF.out (fun i hi e => by have := HGB.out; omega)⟩
      · have hne : (ve != 0) = true := by simpa using hve
        have hE : rparse l = (Rp.zero, ve) := by rw [HR1.out, if_pos hve]
        have HE := Lib.hid hE
        clear hE hve HR1
        obtain ⟨q0, q1, q2, q3, q4, hbF, hfF⟩ := store5 BX.out (.int .i64 0) (.int .i64 0) (.slice none 0 0) (.string ⟨#[]⟩) (.string ⟨#[]⟩)
        have HBF := Lib.hid hbF
        have HFF := Lib.hid hfF
        have r0 : w8.cell? ⟨gb, 0, none⟩ = some (.int .i64 0) := cell_of_block BX.out rfl
        have r1 : w8.cell? ⟨gb, 1, none⟩ = some (.int .i64 0) := cell_of_block BX.out rfl
        have r2 : w8.cell? ⟨gb, 2, none⟩ = some (.slice none 0 0) := cell_of_block BX.out rfl
        have r3 : w8.cell? ⟨gb, 3, none⟩ = some (.string ⟨#[]⟩) := cell_of_block BX.out rfl
        have r4 : w8.cell? ⟨gb, 4, none⟩ = some (.string ⟨#[]⟩) := cell_of_block BX.out rfl
        clear hbF hfF
        go_wp2
        refine bodyPost_ret (rparse_res2 _ gb _ _ _ _ _ _ _ rfl rfl HBF.out) rfl ?_
        exact ⟨⟨0, 0, .slice none 0 0, [], ⟨#[]⟩, ⟨#[]⟩⟩, by rw [HE.out]; rfl, by rw [HE.out]; exact rc_zero _, F.out.trans HFF.out (fun i hi e => by have := HGB.out; omega)⟩
end Go.Proofs.YtgcjnhocoklfbaaGreatDoor
