/- Package stripe: Parse's walk. -/
import Derived.Test.YtkdcldnbdhfobaaDoorMp4
namespace Go.XL
open Go.RowKit Go.Shelf
theorem cut_len (s p : List UInt8) : (Lib.cut s p).1.length ≤ s.length ∧ (Lib.cut s p).2.1.length ≤ s.length := by
  unfold Lib.cut
  split
  · simp only [List.length_take, List.length_drop]; omega
  · simp
end Go.XL
namespace Go.Proofs.YtkdcldnbdhfobaaDoor
open Go.RowKit Go.Shelf Go.XL
set_option linter.unusedVariables false
set_option linter.unusedSimpArgs false
attribute [local go_sem] Oper.semAt_some
theorem parse_res (tmps : Array Value) (c1 c2 : Nat) (w : World) (v1 v2 : Value) (h1 : tmps[2]? = some (.pointer (some ⟨c1, 0, none⟩))) (h2 : tmps[3]? = some (.pointer (some ⟨c2, 0, none⟩)))
    (g1 : w.cell? ⟨c1, 0, none⟩ = some v1) (g2 : w.cell? ⟨c2, 0, none⟩ = some v2) : (results Tryd.f19 tmps).run Tryd.prog w = .ok (.tuple #[v1, v2]) w := by
  simp [results, Tryd.results19, go_sem, h1, h2, g1, g2]
abbrev PaH (w : World) (m : Mp) (st : SsSt) (W : World) : Prop := PaI 23 27 48 9 3 Gl w m st W
def PaS (w : World) (l : List UInt8) (st : SsSt) (W : World) : Prop := ∃ a m, mwords l = a ++ wrem st ∧ mpall a = some m ∧ m.length ≤ a.length ∧ a.length ≤ 200000 ∧ PaH w m st W
def PaX (w : World) (l : List UInt8) (c : Code) (W : World) : Prop := c = .ret ∧ mparse l = ([], 2) ∧ W.heap[w.heap.size]? = some (.cells #[.slice none 0 0] 23 (0, 0)) ∧ W.heap[w.heap.size + 1]? = some (.cells #[.int .i64 2] 27 (0, 0)) ∧ Fr no w W
set_option maxRecDepth 100000 in
set_option maxHeartbeats 8000000 in
theorem m_parse (s : ByteArray) (w : World) (hs : s.size ≤ 100000) (hG : Gl w) :
    Calls Tryd.prog 19 #[.string s] w fun e w' => ∃ v', e = .returned (.tuple #[v', .int .i64 (mparse s.data.toList).2]) ∧ Ow w w' 48 2 v' (mparse s.data.toList).1.length (mpCells (mparse s.data.toList).1) := by
  obtain ⟨w3, hw3⟩ : ∃ w3, ((w.alloc (.cells #[.slice none 0 0] 23)).alloc (.cells #[.int .i64 0] 27)).alloc (.cells #[.slice none 0 0] 23) = w3 := ⟨_, rfl⟩
  have hf3 : Fr no w w3 := by rw [← hw3]; exact (((Fr.refl no w).alloc _).alloc _).alloc _
  have hb0 : w3.heap[w.heap.size]? = some (.cells #[.slice none 0 0] 23 (0, 0)) := by rw [← hw3]; simp only [alloc_get, World.size_alloc, Nat.add_assoc]; simp
  have hb1 : w3.heap[w.heap.size + 1]? = some (.cells #[.int .i64 0] 27 (0, 0)) := by rw [← hw3]; simp only [alloc_get, World.size_alloc, Nat.add_assoc]; simp
  have hb2 : w3.heap[w.heap.size + 2]? = some (.cells #[.slice none 0 0] 23 (0, 0)) := by rw [← hw3]; simp only [alloc_get, World.size_alloc, Nat.add_assoc]; simp
  have hs3 : w3.heap.size = w.heap.size + 3 := by rw [← hw3]; simp
  have HG := Lib.hid hG
  have HF3 := Lib.hid hf3
  have HB0 := Lib.hid hb0
  have HB1 := Lib.hid hb1
  have HB2 := Lib.hid hb2
  have HW3 := Lib.hid hw3
  clear hf3 hb0 hb1 hb2 hw3 hG
  by_cases hne : s.toList = []
  · have hm : mparse s.data.toList = ([], 1) := by rw [← ByteArray.toList_eq, hne]; rfl
    rw [hm]
    have hck := m_check (.slice none 0 0) [] w3 (Sl.nil w3 48 2).rd
    have e1 : mcheck [] = 1 := rfl
    rw [e1] at hck
    have Hck := Lib.hid hck
    have p4 : w3.cell? ⟨w.heap.size + 1 + 1, 0, none⟩ = some (.slice none 0 0) := cell_of_block HB2.out rfl
    clear hck e1 hm
    refine calls_of_in (n := 4) free_wide (callsIn_of_wp_marks Tryd.func19 rfl trivial (wpIn_wide.2 ?_) rfl)
    simp only [Tryd.ntmps19, List.size_toArray, List.length_cons, List.length_nil, Nat.reduceAdd, Nat.reduceSub, Array.replicate_succ, Array.replicate_zero, List.push_toArray, List.append_toArray, List.nil_append, List.cons_append]
    go_upto_region 2 with (fail)
    rw [HW3.out]
    clear HW3
    go_wp2_with fail
    refine Hck.out.mono ?_
    rintro e V ⟨rfl, hf⟩
    have r2 := hf.heap HB0.out (fun f => f)
    have r3 := hf.heap HB1.out (fun f => f)
    have f1 : Fr (fun k => k = w.heap.size) V (V.setCell ⟨w.heap.size, 0, none⟩ (.slice none 0 0)) := (Fr.refl (fun k => k = w.heap.size) V).setCell (p := ⟨w.heap.size, 0, none⟩) (fun _ => rfl) _
    have s1 := heap_setC (j := 0) (.slice none 0 0) r2
    have r3' := f1.heap r3 (by omega)
    have f2 : Fr (fun k => k = w.heap.size + 1) (V.setCell ⟨w.heap.size, 0, none⟩ (.slice none 0 0)) ((V.setCell ⟨w.heap.size, 0, none⟩ (.slice none 0 0)).setCell ⟨w.heap.size + 1, 0, none⟩ (.int .i64 1)) := (Fr.refl (fun k => k = w.heap.size + 1) _).setCell (p := ⟨w.heap.size + 1, 0, none⟩) (fun _ => rfl) _
    have s2 := heap_setC (j := 0) (.int .i64 1) r3'
    have s1' := f2.heap s1 (by omega)
    have hfw : Fr no w ((V.setCell ⟨w.heap.size, 0, none⟩ (.slice none 0 0)).setCell ⟨w.heap.size + 1, 0, none⟩ (.int .i64 1)) := ((HF3.out.trans' hf).trans f1 (fun k hk e => by omega)).trans f2 (fun k hk e => by omega)
    have q2 : V.frozen? ⟨w.heap.size, 0, none⟩ = false := frozen_of_block r2
    have q3 : (V.setCell ⟨w.heap.size, 0, none⟩ (.slice none 0 0)).frozen? ⟨w.heap.size + 1, 0, none⟩ = false := frozen_of_block r3'
    have p2 : V.cell? ⟨w.heap.size, 0, none⟩ = some (.slice none 0 0) := cell_of_block r2 rfl
    have p3 : (V.setCell ⟨w.heap.size, 0, none⟩ (.slice none 0 0)).cell? ⟨w.heap.size + 1, 0, none⟩ = some (.int .i64 0) := cell_of_block r3' rfl
    have S1 := Lib.hid s1'
    have S2 := Lib.hid s2
    have HFW := Lib.hid hfw
    clear hf r2 r3 f1 s1 r3' f2 s2 s1' hfw HB0 HB1 HB2 p4 Hck
    go_wp2
    exact leave0 rfl (parse_res _ w.heap.size (w.heap.size + 1) _ _ _ rfl rfl (cell_of_block S1.out rfl) (cell_of_block S2.out rfl)) ⟨.slice none 0 0, rfl, Ow.nil HFW.out _ _⟩
  · have hne' : s.toList.isEmpty = false := by simpa using hne
    have hl : s.data.toList.length ≤ 100000 := by rw [str_len]; exact hs
    have hmw : mwords s.data.toList = wsplit s.data.toList := by unfold mwords; rw [if_neg (by rw [← ByteArray.toList_eq]; exact hne)]
    obtain ⟨l, hl0⟩ : ∃ l, s.data.toList = l := ⟨_, rfl⟩
    rw [hl0] at hl hmw
    rw [hl0]
    have hsl : s = ⟨l.toArray⟩ := by rw [← hl0]
    have Hlen : Hid ((mwords l).length ≤ 100001) := Lib.hid (by rw [hmw, ← bsplit_32]; have := bsplit_len 32 l; omega)
    have Hsl := Lib.hid hsl
    have Hmw := Lib.hid hmw
    clear hl0 hmw hsl
    obtain ⟨w6, hw6⟩ : ∃ w6, ((w3.alloc (.cells #[.string s] 9)).alloc (.cells #[.string ⟨#[32]⟩] 9)).alloc (.cells #[.int .i64 0] 3) = w6 := ⟨_, rfl⟩
    have hf6 : Fr no w3 w6 := by rw [← hw6]; exact (((Fr.refl no w3).alloc _).alloc _).alloc _
    have hI : PaH w [] (l, some l) w6 := by
      refine ⟨hf6.heap HB0.out (fun f => f), hf6.heap HB1.out (fun f => f), ⟨none, 0, hf6.heap HB2.out (fun f => f), Sl.nil _ _ _, by simp [Value.ownBlock]⟩, ⟨?_, ?_, ?_, HG.out.fr (HF3.out.trans' hf6), hl, fun r h => by injection h with h; subst h; exact hl⟩, HF3.out.trans' hf6⟩
      · rw [← hw6]; simp only [alloc_get, World.size_alloc, hs3, Nat.add_assoc]; simp
      · rw [← hw6, ← Hsl.out]; simp only [alloc_get, World.size_alloc, hs3, Nat.add_assoc]; simp
      · rw [← hw6]; simp only [alloc_get, World.size_alloc, hs3, Nat.add_assoc]; simp
    have hS0 : PaS w l (l, some l) w6 := ⟨[], [], by rw [Hmw.out]; rfl, rfl, Nat.le_refl _, Nat.zero_le _, hI⟩
    have HS0 := Lib.hid hS0
    have HW6 := Lib.hid hw6
    have hs6 : w.heap.size + 6 = w6.heap.size := by rw [← hw6]; simp [hs3]
    clear hI hS0 hf6 hw6 hl HB0 HB1 HB2 HF3
    have hss := s_splitSeq s ⟨#[32]⟩ w3
    rw [hs3, HW6.out] at hss
    refine calls_of_in (n := 4) free_wide (callsIn_of_wp_marks Tryd.func19 rfl trivial (wpIn_wide.2 ?_) rfl)
    simp only [Tryd.ntmps19, List.size_toArray, List.length_cons, List.length_nil, Nat.reduceAdd, Nat.reduceSub, Array.replicate_succ, Array.replicate_zero, List.push_toArray, List.append_toArray, List.nil_append, List.cons_append]
    go_upto_region 2 with (fail)
    rw [HW3.out]
    clear HW3
    go_wp2_with fail
    refine hss.mono ?_
    clear hss
    rintro e w' ⟨rfl, hw'⟩
    replace hw' := hw'.symm
    subst hw'
    go_wp2
    have hgl : ∀ (F : Nat → Prop) (U U' : World), (∀ k, F k → w.heap.size ≤ k) → Gl U → Fr F U U' → Gl U' := fun F U U' hF h hf => Gl.frF HG.out h hf hF
    have Hgl := Lib.hid hgl
    clear hgl
    refine (wpIn_wide (n := 3)).1 ?_
    refine wpIn_range2 rfl (by intro h; cases h) (gf := 46) (lb := #[.pointer (some ⟨w.heap.size + 4, 0, none⟩), .pointer (some ⟨w.heap.size + 3, 0, none⟩), .pointer (some ⟨w.heap.size + 5, 0, none⟩)]) rfl trivial (enters_of Tryd.func46 (by kernel_rfl) rfl)
      (splitSeq_iter (w.heap.size + 4) (w.heap.size + 3) (w.heap.size + 5) l (by omega) (by omega) (fun U U' h hf => Hgl.out _ U U' (fun k hk => by omega) h hf)) (fun _ => rfl) ?hstepK ?hdoneK (PaS w l) (PaX w l)
      ?hI ?hIx ?hPre HS0.out ?round ?done ?stop
    case hstepK =>
      rintro st W x st' W1 hp ⟨r, h1, hf, hb, h2⟩
      exact hf.kb (fun k hk hF => by subst hF; exact ⟨_, hp.bx, rfl⟩)
    case hdoneK =>
      rintro st W W' hp ⟨_, rfl⟩
      exact Kb.refl _
    case hI =>
      rintro st W W' ⟨a, m, h1, h2, h3, h4, h5⟩ hb
      exact ⟨a, m, h1, h2, h3, h4, h5.bk hb (by omega) (fun U U' h hf => Hgl.out _ U U' (fun k hk => by have := hk.1; omega) h hf)⟩
    case hIx =>
      rintro c W W' ⟨h1, h2, h3, h4, h5⟩ hb
      exact ⟨h1, h2, hb.heap h3 rfl, hb.heap h4 rfl, hb.fr h5 (by omega)⟩
    case hPre =>
      rintro st W ⟨a, m, h1, h2, h3, h4, h5⟩
      exact h5.pre
    case round =>
      rintro lr st W x st' W1 ⟨a, m, h1, h2, h3, h4, h5⟩ hst
      have hrem := hst.rem
      rw [hrem] at h1
      have hxl : x.length ≤ 100000 := by
        obtain ⟨r, q1, q2, q3, q4⟩ := hst
        have := h5.pre.b2 r q1
        rcases q4 with ⟨wd, r', e1, e2, e3, e4⟩ | ⟨e1, e2, e3⟩
        · rw [e1] at this; rw [e3]; simp at this; omega
        · rw [e2]; exact this
      have h6 := h5.step hst (fun U U' h hf => Hgl.out _ U U' (fun k hk => by omega) h hf)
      clear h5 hst hrem
      gi_wp2
      refine ⟨Kb.refl _, fun l2 Wb hb hlr => ?_⟩
      have h7 := h6.bk hb (by omega) (fun U U' h hf => Hgl.out _ U U' (fun k hk => by have := hk.1; omega) h hf)
      clear h6 hb
      obtain ⟨X, hX⟩ : ∃ X : ByteArray, ⟨x.toArray⟩ = X := ⟨_, rfl⟩
      have hXd : X.data.toList = x := by rw [← hX]
      rw [hX]
      obtain ⟨mx, hmx⟩ := h7.pre.gl.m
      have hcut := Tryd.strings_Cut X ⟨#[47]⟩ mx Wb (by rw [← str_len, hXd]; omega) hmx
      rw [hXd, show (⟨#[47]⟩ : ByteArray).data.toList = [47] from rfl] at hcut
      have hcl := cut_len x [47]
      have hmp : mpw x = if (Lib.cut x [47]).2.2 = true ∧ (vnum (Lib.cut x [47]).1 2147483647).2 = 0 ∧ (vnum (Lib.cut x [47]).2.1 2147483647).2 = 0 then some ((vnum (Lib.cut x [47]).1 2147483647).1, (vnum (Lib.cut x [47]).2.1 2147483647).1) else none := rfl
      obtain ⟨⟨c1, c2, c3⟩, hc⟩ : ∃ c, Lib.cut x [47] = c := ⟨_, rfl⟩
      rw [hc] at hcut hcl hmp
      dsimp only at hcut hcl hmp
      obtain ⟨A, hA⟩ : ∃ A : ByteArray, ⟨c1.toArray⟩ = A := ⟨_, rfl⟩
      obtain ⟨B, hB⟩ : ∃ B : ByteArray, ⟨c2.toArray⟩ = B := ⟨_, rfl⟩
      have hAd : A.data.toList = c1 := by rw [← hA]
      have hBd : B.data.toList = c2 := by rw [← hB]
      rw [hA, hB] at hcut
      have hn1 := fun (U : World) (hU : Fr no Wb U) => vec_number A 2147483647 U (by rw [← str_len, hAd]; omega) (by decide) (by decide) (h7.pre.gl.fr hU)
      have hn2 := fun (U : World) (hU : Fr no Wb U) => vec_number B 2147483647 U (by rw [← str_len, hBd]; omega) (by decide) (by decide) (h7.pre.gl.fr hU)
      rw [hAd] at hn1
      rw [hBd] at hn2
      obtain ⟨⟨n1, e1⟩, hv1⟩ : ∃ q, vnum c1 2147483647 = q := ⟨_, rfl⟩
      obtain ⟨⟨n2, e2⟩, hv2⟩ : ∃ q, vnum c2 2147483647 = q := ⟨_, rfl⟩
      rw [hv1] at hn1 hmp
      rw [hv2] at hn2 hmp
      dsimp only at hn1 hn2 hmp
      have Hn1 := Lib.hid hn1
      have Hn2 := Lib.hid hn2
      have Hcut := Lib.hid hcut
      have Hmp := Lib.hid hmp
      have H7 := Lib.hid h7
      have H1 := Lib.hid h1
      have H2 := Lib.hid h2
      have Hlr := Lib.hid hlr
      clear hn1 hn2 hcut hmp h7 h1 h2 hlr hX hXd hmx hcl hc hA hB hAd hBd hv1 hv2
      gi_wp2
      refine ⟨trivial, CallsIn.inRound _ (callsIn_wide.2 (Hcut.out.mono ?_))⟩
      rintro e W2 ⟨rfl, nq, hnq⟩
      have hF : Fr no Wb W2 := by rw [hnq]; exact (Fr.refl no Wb).drewN nq
      have F := Lib.hid hF
      clear hF hnq Hcut
      gi_wp2
      refine ⟨trivial, CallsIn.inRound _ (callsIn_wide.2 ((Hn1.out _ F.out).mono ?_))⟩
      rintro e W3 ⟨rfl, hfd⟩
      replace F := Lib.hid (F.out.trans' hfd)
      clear hfd Hn1
      gi_wp2
      refine ⟨trivial, CallsIn.inRound _ (callsIn_wide.2 ((Hn2.out _ F.out).mono ?_))⟩
      rintro e W4 ⟨rfl, hfd⟩
      replace F := Lib.hid (F.out.trans' hfd)
      clear hfd Hn2
      have H8 := Lib.hid (H7.out.fr0 F.out (fun U U' h hf => h.fr hf))
      have hkb : Kb Wb W4 := F.out.kb (fun _ _ f => f.elim)
      have HK := Lib.hid hkb
      clear H7 hkb
      have q2 : W4.frozen? ⟨w.heap.size, 0, none⟩ = false := frozen_of_block H8.out.r2
      have q3 : W4.frozen? ⟨w.heap.size + 1, 0, none⟩ = false := frozen_of_block H8.out.r3
      have p2 : W4.cell? ⟨w.heap.size, 0, none⟩ = some (.slice none 0 0) := cell_of_block H8.out.r2 rfl
      have p3 : W4.cell? ⟨w.heap.size + 1, 0, none⟩ = some (.int .i64 0) := cell_of_block H8.out.r3 rfl
      obtain ⟨ao, cap, o1, o2, o3⟩ := H8.out.ou
      have p4 : W4.cell? ⟨w.heap.size + 1 + 1, 0, none⟩ = some (.slice ao m.length cap) := cell_of_block o1 rfl
      have hml : m.length ≤ 200000 := by omega
      by_cases hgood : c3 = true ∧ e1 = 0 ∧ e2 = 0
      · obtain ⟨rfl, rfl, rfl⟩ := hgood
        obtain ⟨j0, hj0, jz0, jz1, jz2⟩ := info_parts (show (Tryd.prog.info? 48).map (fun i => (i.zero, i.size, i.bytes)) = some (some (.agg #[.int .i64 0, .int .i64 0]), 2, 16) by kernel_rfl)
        have hlf : Fr no W4 (W4.alloc (.cells #[.int .i64 n1, .int .i64 n2] 48)) := (Fr.refl no W4).alloc _
        have H9 := Lib.hid (H8.out.fr0 hlf (fun U U' h hf => h.fr hf))
        have O1 := Lib.hid (hlf.heap o1 (fun f => f))
        have O2 := Lib.hid (o2.fr hlf (fun _ _ f => f))
        have O3 := Lib.hid o3
        have Hlit := Lib.hid (mp_lit1 W4 48 n1 n2)
        have hone : ∀ u ∈ [Value.int .i64 n1, Value.int .i64 n2], u.oneCell' = true := fun u hu => by
          simp at hu
          rcases hu with rfl | rfl <;> rfl
        have Hone := Lib.hid hone
        have HKl := Lib.hid (HK.out.trans (hlf.kb (fun _ _ f => f.elim)))
        clear o1 o2 o3 hone hlf
        gi_wp2_with (gi_at_builtin; refine wpListIn_append_all (W4.alloc (.cells #[.int .i64 n1, .int .i64 n2] 48)) rfl _ _ 23 rfl 48 j0 _ 2 16 Tryd.underlying23 hj0 jz0 jz1 jz2 rfl (by decide) _ _ _ rfl O2.out _ _ _ rfl Hlit.out Hone.out (by unfold maxLen; omega) (by omega) ?_)
        intro ao6 cap6 w6 hs6 hf6 ho6 hkb6
        have hg := H9.out.grow O1.out O3.out hs6 hf6 (by simpa using ho6) (fun U U' h hf => Hgl.out _ U U' (fun k hk => hk) h hf)
        have q4 : w6.frozen? ⟨w.heap.size + 1 + 1, 0, none⟩ = false := frozen_of_block (hf6.heap O1.out (fun e => by have := O3.out _ e; omega))
        have p5 : w6.cell? ⟨w.heap.size + 1 + 1, 0, none⟩ = some (.slice ao m.length cap) := cell_of_block (hf6.heap O1.out (fun e => by have := O3.out _ e; omega)) rfl
        have HG6 := Lib.hid hg
        have HK6 := Lib.hid (HKl.out.trans hkb6)
        clear hs6 hf6 ho6 hkb6 hg p2 p3 p4 q2 q3
        gi_wp2
        refine ⟨HK6.out.trans (Kb.setCell _ _ _), a ++ [x], m ++ [(n1, n2)], ?_, ?_, ?_, ?_, HG6.out⟩
        · rw [List.append_assoc]; exact H1.out
        · exact mpall_snoc H2.out (by rw [Hmp.out]; simp)
        · rw [List.length_append, List.length_append]; simp; omega
        · have h1 := congrArg List.length H1.out
          have h2 := Hlen.out
          rw [List.length_append, List.length_cons] at h1
          rw [List.length_append]
          simp
          omega
      · have hbad := mparse_bad H1.out (by rw [Hmp.out, if_neg hgood])
        have Hbad := Lib.hid hbad
        have hst1 := heap_setC (j := 0) (.slice none 0 0) H8.out.r2
        have hf1 : Fr (fun k => k = w.heap.size) W4 (W4.setCell ⟨w.heap.size, 0, none⟩ (.slice none 0 0)) := (Fr.refl (fun k => k = w.heap.size) W4).setCell (p := ⟨w.heap.size, 0, none⟩) (fun _ => rfl) _
        have hr3 := hf1.heap H8.out.r3 (by omega)
        have hst2 := heap_setC (j := 0) (.int .i64 2) hr3
        have hf2 : Fr (fun k => k = w.heap.size + 1) (W4.setCell ⟨w.heap.size, 0, none⟩ (.slice none 0 0)) ((W4.setCell ⟨w.heap.size, 0, none⟩ (.slice none 0 0)).setCell ⟨w.heap.size + 1, 0, none⟩ (.int .i64 2)) := (Fr.refl (fun k => k = w.heap.size + 1) _).setCell (p := ⟨w.heap.size + 1, 0, none⟩) (fun _ => rfl) _
        have hx2 := hf2.heap hst1 (by omega)
        have hff : Fr no w ((W4.setCell ⟨w.heap.size, 0, none⟩ (.slice none 0 0)).setCell ⟨w.heap.size + 1, 0, none⟩ (.int .i64 2)) := (H8.out.fr.trans hf1 (fun k hk e => by omega)).trans hf2 (fun k hk e => by omega)
        have HX : Hid (PaX w l .ret ((W4.setCell ⟨w.heap.size, 0, none⟩ (.slice none 0 0)).setCell ⟨w.heap.size + 1, 0, none⟩ (.int .i64 2))) := Lib.hid ⟨rfl, Hbad.out, hx2, hst2, hff⟩
        have q5 : (W4.setCell ⟨w.heap.size, 0, none⟩ (.slice none 0 0)).frozen? ⟨w.heap.size + 1, 0, none⟩ = false := frozen_of_block hr3
        have p5 : (W4.setCell ⟨w.heap.size, 0, none⟩ (.slice none 0 0)).cell? ⟨w.heap.size + 1, 0, none⟩ = some (.int .i64 0) := cell_of_block hr3 rfl
        have HKx := Lib.hid ((HK.out.trans (Kb.setCell W4 ⟨w.heap.size, 0, none⟩ (.slice none 0 0))).trans (Kb.setCell _ ⟨w.heap.size + 1, 0, none⟩ (.int .i64 2)))
        clear hbad o1 o2 o3 p4 hst1 hf1 hr3 hst2 hf2 hx2 hff
        have hway : c3 = false ∨ (c3 = true ∧ (e1 != 0) = true) ∨ (c3 = true ∧ e1 = 0 ∧ (e2 != 0) = true) := by
          cases c3
          · exact .inl rfl
          · by_cases h1 : e1 = 0
            · refine .inr (.inr ⟨rfl, h1, ?_⟩)
              rw [bne_iff_ne]
              exact fun h2 => hgood ⟨rfl, h1, h2⟩
            · exact .inr (.inl ⟨rfl, by rw [bne_iff_ne]; exact h1⟩)
        clear hgood
        rcases hway with rfl | ⟨rfl, hw1⟩ | ⟨rfl, rfl, hw2⟩
        all_goals
          gi_wp2
          exact ⟨HKx.out, HX.out⟩
    case done =>
      rintro D st W2 W' hD ⟨a, m, h1, h2, h3, h4, h5⟩ ⟨hnone, rfl⟩ hd0 W hb hd hK
      have hw0 : wrem st = [] := by unfold wrem; rw [hnone]
      rw [hw0, List.append_nil] at h1
      have hok := mparse_ok (l := l) (m := m) (by rw [h1]; exact h2)
      have h6 := h5.bk hb (by omega) (fun U U' h hf => Hgl.out _ U U' (fun k hk => by have := hk.1; omega) h hf)
      obtain ⟨ao, cap, o1, o2, o3⟩ := h6.ou
      have p4 : W.cell? ⟨w.heap.size + 1 + 1, 0, none⟩ = some (.slice ao m.length cap) := cell_of_block o1 rfl
      have hck := m_check (.slice ao m.length cap) m W o2.rd
      have Hok := Lib.hid hok
      have H6 := Lib.hid h6
      have O1 := Lib.hid o1
      have O2 := Lib.hid o2
      have O3 := Lib.hid o3
      have Hd := Lib.hid hd
      have Hck := Lib.hid hck
      clear h1 h2 h3 h4 h5 hw0 hok h6 o1 o2 o3 hd hck hb hd0 hK hnone
      go_wp2_with fail
      refine Hck.out.mono ?_
      rintro e V ⟨rfl, hf⟩
      have H7 := Lib.hid (H6.out.fr0 hf (fun U U' h hf => h.fr hf))
      have O1' := Lib.hid (hf.heap O1.out (fun f => f))
      have O2' := Lib.hid (O2.out.fr hf (fun _ _ f => f))
      have Hd' := Lib.hid (hf.heap Hd.out (fun f => f))
      clear hf p4 Hck H6 O1 O2 Hd
      have p4 : V.cell? ⟨w.heap.size + 1 + 1, 0, none⟩ = some (.slice ao m.length cap) := cell_of_block O1'.out rfl
      have hDd := Hd'.out
      rcases mcheck_two m with hz | hz
      · have HM : Hid (mparse l = (m, 0)) := Lib.hid (by rw [Hok.out, if_pos hz])
        rw [hz]
        clear hz Hok
        have f1 : Fr (fun k => k = w.heap.size) V (V.setCell ⟨w.heap.size, 0, none⟩ (.slice ao m.length cap)) := (Fr.refl (fun k => k = w.heap.size) V).setCell (p := ⟨w.heap.size, 0, none⟩) (fun _ => rfl) _
        have s1 := heap_setC (j := 0) (.slice ao m.length cap) H7.out.r2
        have r3 := f1.heap H7.out.r3 (by omega)
        have f2 : Fr (fun k => k = w.heap.size + 1) (V.setCell ⟨w.heap.size, 0, none⟩ (.slice ao m.length cap)) ((V.setCell ⟨w.heap.size, 0, none⟩ (.slice ao m.length cap)).setCell ⟨w.heap.size + 1, 0, none⟩ (.int .i64 0)) := (Fr.refl (fun k => k = w.heap.size + 1) _).setCell (p := ⟨w.heap.size + 1, 0, none⟩) (fun _ => rfl) _
        have s2 := heap_setC (j := 0) (.int .i64 0) r3
        have s1' := f2.heap s1 (by omega)
        have hd2 := f2.heap (f1.heap Hd'.out (fun e => by rw [e, H7.out.r2] at hDd; cases hDd)) (fun e => by rw [e, H7.out.r3] at hDd; cases hDd)
        have hfw : Fr no w ((V.setCell ⟨w.heap.size, 0, none⟩ (.slice ao m.length cap)).setCell ⟨w.heap.size + 1, 0, none⟩ (.int .i64 0)) := (H7.out.fr.trans f1 (fun k hk e => by omega)).trans f2 (fun k hk e => by omega)
        have hsl : Sl ((V.setCell ⟨w.heap.size, 0, none⟩ (.slice ao m.length cap)).setCell ⟨w.heap.size + 1, 0, none⟩ (.int .i64 0)) 48 2 (.slice ao m.length cap) m.length (mpCells m) := (O2'.out.fr f1 (fun g hg e => by have := O3.out g hg; omega)).fr f2 (fun g hg e => by have := O3.out g hg; omega)
        have q2 : V.frozen? ⟨w.heap.size, 0, none⟩ = false := frozen_of_block H7.out.r2
        have q3 : (V.setCell ⟨w.heap.size, 0, none⟩ (.slice ao m.length cap)).frozen? ⟨w.heap.size + 1, 0, none⟩ = false := frozen_of_block r3
        have p2 : V.cell? ⟨w.heap.size, 0, none⟩ = some (.slice none 0 0) := cell_of_block H7.out.r2 rfl
        have p3 : (V.setCell ⟨w.heap.size, 0, none⟩ (.slice ao m.length cap)).cell? ⟨w.heap.size + 1, 0, none⟩ = some (.int .i64 0) := cell_of_block r3 rfl
        have S1 := Lib.hid s1'
        have S2 := Lib.hid s2
        have HD2 := Lib.hid hd2
        have HFW := Lib.hid hfw
        have HSL := Lib.hid hsl
        clear f1 s1 r3 f2 s2 s1' hd2 hfw hsl hDd
        go_wp2
        refine leaveOne D rfl HD2.out (fun Wf hbf => ?_)
        refine ⟨_, parse_res _ w.heap.size (w.heap.size + 1) _ _ _ rfl rfl (cell_of_block (hbf.heap S1.out rfl) rfl) (cell_of_block (hbf.heap S2.out rfl) rfl), (.slice ao m.length cap), ?_, ?_⟩
        · rw [HM.out]; rfl
        · rw [HM.out]; exact ⟨HSL.out.bk hbf, hbf.fr HFW.out (by omega), fun g hg => by have := O3.out g hg; omega⟩
      · have HM : Hid (mparse l = ([], 1)) := Lib.hid (by rw [Hok.out, if_neg (by rw [hz]; decide)])
        rw [hz]
        clear hz Hok
        have f1 : Fr (fun k => k = w.heap.size) V (V.setCell ⟨w.heap.size, 0, none⟩ (.slice none 0 0)) := (Fr.refl (fun k => k = w.heap.size) V).setCell (p := ⟨w.heap.size, 0, none⟩) (fun _ => rfl) _
        have s1 := heap_setC (j := 0) (.slice none 0 0) H7.out.r2
        have r3 := f1.heap H7.out.r3 (by omega)
        have f2 : Fr (fun k => k = w.heap.size + 1) (V.setCell ⟨w.heap.size, 0, none⟩ (.slice none 0 0)) ((V.setCell ⟨w.heap.size, 0, none⟩ (.slice none 0 0)).setCell ⟨w.heap.size + 1, 0, none⟩ (.int .i64 1)) := (Fr.refl (fun k => k = w.heap.size + 1) _).setCell (p := ⟨w.heap.size + 1, 0, none⟩) (fun _ => rfl) _
        have s2 := heap_setC (j := 0) (.int .i64 1) r3
        have s1' := f2.heap s1 (by omega)
        have hd2 := f2.heap (f1.heap Hd'.out (fun e => by rw [e, H7.out.r2] at hDd; cases hDd)) (fun e => by rw [e, H7.out.r3] at hDd; cases hDd)
        have hfw : Fr no w ((V.setCell ⟨w.heap.size, 0, none⟩ (.slice none 0 0)).setCell ⟨w.heap.size + 1, 0, none⟩ (.int .i64 1)) := (H7.out.fr.trans f1 (fun k hk e => by omega)).trans f2 (fun k hk e => by omega)
        have hsl : Sl ((V.setCell ⟨w.heap.size, 0, none⟩ (.slice none 0 0)).setCell ⟨w.heap.size + 1, 0, none⟩ (.int .i64 1)) 48 2 (.slice ao m.length cap) m.length (mpCells m) := (O2'.out.fr f1 (fun g hg e => by have := O3.out g hg; omega)).fr f2 (fun g hg e => by have := O3.out g hg; omega)
        have q2 : V.frozen? ⟨w.heap.size, 0, none⟩ = false := frozen_of_block H7.out.r2
        have q3 : (V.setCell ⟨w.heap.size, 0, none⟩ (.slice none 0 0)).frozen? ⟨w.heap.size + 1, 0, none⟩ = false := frozen_of_block r3
        have p2 : V.cell? ⟨w.heap.size, 0, none⟩ = some (.slice none 0 0) := cell_of_block H7.out.r2 rfl
        have p3 : (V.setCell ⟨w.heap.size, 0, none⟩ (.slice none 0 0)).cell? ⟨w.heap.size + 1, 0, none⟩ = some (.int .i64 0) := cell_of_block r3 rfl
        have S1 := Lib.hid s1'
        have S2 := Lib.hid s2
        have HD2 := Lib.hid hd2
        have HFW := Lib.hid hfw
        have HSL := Lib.hid hsl
        clear f1 s1 r3 f2 s2 s1' hd2 hfw hsl hDd
        go_wp2
        refine leaveOne D rfl HD2.out (fun Wf hbf => ?_)
        refine ⟨_, parse_res _ w.heap.size (w.heap.size + 1) _ _ _ rfl rfl (cell_of_block (hbf.heap S1.out rfl) rfl) (cell_of_block (hbf.heap S2.out rfl) rfl), (.slice none 0 0), ?_, ?_⟩
        · rw [HM.out]; rfl
        · rw [HM.out]; exact Ow.nil (hbf.fr HFW.out (by omega)) _ _
    case stop =>
      rintro D c W hD ⟨rfl, h2, h3, h4, h5⟩ hd
      refine wpIn_ret ?_
      refine leaveOne D rfl hd (fun Wf hbf => ?_)
      refine ⟨_, parse_res _ w.heap.size (w.heap.size + 1) _ _ _ rfl rfl (cell_of_block (hbf.heap h3 rfl) rfl) (cell_of_block (hbf.heap h4 rfl) rfl), .slice none 0 0, ?_, ?_⟩
      · rw [h2]; rfl
      · rw [h2]; exact Ow.nil (hbf.fr h5 (by omega)) _ _
end Go.Proofs.YtkdcldnbdhfobaaDoor
