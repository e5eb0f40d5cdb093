/- Package ring: Len; slices.AppendSeq over an iterator that makes blocks of its own. -/
import Derived.Test.YtlohbikkhojlaaaRg5
import Derived.Test.YtlohbikkhojlaaaRg4
namespace Go.Proofs.Ytlohbikkhojlaaa
open Go.RowKit Go.Shelf Go.XL
set_option linter.unusedVariables false
set_option linter.unusedSimpArgs false
attribute [local go_sem] Oper.semAt_some
def rlen (r : Rg) : Nat := r.late.length + r.qs.flatten.length
/-- memory between two rounds of Len: g the count, g + 1, g + 2 the iterator's boxes -/
structure LnI (w : World) (g p : Nat) (r : Rg) (qv sv lv : Value) (vs : List Value) (s : List Dr) (W : World) : Prop where
  n : ∃ k : Nat, k + s.length = rlen r ∧ W.heap[g]? = some (.cells #[.int .i64 (k : Int)] 3 (0, 0))
  b1 : W.heap[g + 1]? = some (.cells #[.pointer (some ⟨p, 0, none⟩)] 24 (0, 0))
  b2 : W.heap[g + 2]? = some (.cells #[.int .i64 ((0 : Nat) : Int)] 3 (0, 0))
  r : RgT W p r qv sv lv vs
  fr : Fr no w W
set_option maxRecDepth 10000 in
set_option maxHeartbeats 2000000 in
theorem ring_len (p : Nat) (r : Rg) (qv sv lv : Value) (vs : List Value) (w : World) (h : RgT w p r qv sv lv vs) (hq8 : r.qs.length ≤ 8) (hl8 : ∀ l ∈ r.qs, l.length ≤ 1000) (hll : rlen r ≤ 100000) :
    Calls Try.prog 13 #[.pointer (some ⟨p, 0, none⟩)] w fun e w' => e = .returned (.int .i64 ((rlen r : Nat) : Int)) ∧ Fr no w w' := by
  obtain ⟨lo, lc, rfl, hlc, hlm⟩ := h.late.rd.cap
  have c6 : w.cell? ⟨p, 6, none⟩ = some (.slice lo r.late.length lc) := cell_of_block h.cell rfl
  obtain ⟨ln, hln⟩ : ∃ n, r.late.length = n := ⟨_, rfl⟩
  have Hln := Lib.hid hln
  obtain ⟨w1, hw1⟩ : ∃ U, w.alloc (.cells #[.int .i64 (ln : Int)] 3) = U := ⟨_, rfl⟩
  obtain ⟨g, hg⟩ : ∃ g, w.heap.size = g := ⟨_, rfl⟩
  have hg1 : w1.heap.size = g + 1 := by rw [← hw1, ← hg]; simp
  obtain ⟨w3, hw3⟩ : ∃ U, (w1.alloc (.cells #[.pointer (some ⟨p, 0, none⟩)] 24)).alloc (.cells #[.int .i64 0] 3) = U := ⟨_, rfl⟩
  have hf3 : Fr no w w3 := by rw [← hw3, ← hw1]; exact (((Fr.refl no w).alloc _).alloc _).alloc _
  have hI0 : LnI w g p r qv sv (.slice lo r.late.length lc) vs (r.qs.drop 0).flatten w3 := by
    refine ⟨⟨ln, by rw [List.drop_zero, ← hln]; rfl, ?_⟩, ?_, ?_, h.fr0 hf3, hf3⟩
    · rw [← hw3]; simp only [alloc_get, World.size_alloc, hg1]; rw [if_neg (by omega), if_neg (by omega), ← hw1, ← hg]; exact World.alloc_heap_new _ _
    · rw [← hw3]; simp only [alloc_get, World.size_alloc, hg1]; simp
    · rw [← hw3]; simp only [alloc_get, World.size_alloc, hg1]; simp
  have hgw : w3.heap.size = g + 3 := by rw [← hw3]; simp [hg1]
  have HI0 := Lib.hid hI0
  have HW1 := Lib.hid hw1
  have HW3 := Lib.hid hw3
  have HGW := Lib.hid hgw
  have HG := Lib.hid hg
  have HL := Lib.hid hll
  have HR0 := Lib.hid h
  have hal := ring_all p 0 w1
  rw [hg1] at hal
  have Hal := Lib.hid hal
  have Hit := Lib.hid (rgall_iter (g + 1) (g + 2) p r qv sv (.slice lo r.late.length lc) vs 0 (Nat.zero_le _) hq8 hl8)
  rw [hln] at c6
  clear h hI0 hw1 hw3 hgw hln hg1 hal hf3 hll hl8
  refine calls_of_in (n := 4) free_wide (callsIn_of_wp_marks Try.func13 rfl trivial (wpIn_wide.2 ?_) rfl)
  simp only [Try.ntmps13, List.size_toArray, List.length_cons, List.length_nil, Nat.reduceAdd, Nat.reduceSub, Array.replicate_succ, Array.replicate_zero, List.push_toArray, List.append_toArray, List.nil_append, List.cons_append]
  go_upto_region 2 with (fail)
  rw [HW1.out]
  try rw [hg]
  clear c6
  go_wp2_with fail
  refine Hal.out.mono ?_
  rintro e w2 ⟨rfl, hw2⟩
  rw [HW3.out] at hw2
  subst hw2
  clear Hal HW1 HW3 hg
  go_wp2
  refine (wpIn_wide (n := 3)).1 ?_
  refine wpIn_eachF (ls := (r.qs.drop 0).flatten) rfl (by intro h; cases h) (gf := 52) (lb := #[.pointer (some ⟨g + 1, 0, none⟩), .pointer (some ⟨g + 2, 0, none⟩)]) rfl trivial (enters_of Try.func52 (by kernel_rfl) rfl)
    Hit.out (fun _ => rfl) (LnI w g p r qv sv (.slice lo r.late.length lc) vs) (fun _ _ => False)
    ?hI (fun _ _ _ f _ => f) ?hIf ?hPre HI0.out ?round ?done (fun _ _ _ _ f => f.elim)
  case hI => exact fun s W W' h hb => ⟨by obtain ⟨k, h1, h2⟩ := h.n; exact ⟨k, h1, hb.heap h2 rfl⟩, hb.heap h.b1 rfl, hb.heap h.b2 rfl, h.r.bk hb, hb.fr h.fr (by have := h.fr.size; have := HGW.out; have := HG.out; omega)⟩
  case hIf => exact fun s W W' h hb => ⟨by obtain ⟨k, h1, h2⟩ := h.n; exact ⟨k, h1, hb.heap h2 (fun f => f)⟩, hb.heap h.b1 (fun f => f), hb.heap h.b2 (fun f => f), h.r.fr0 hb, h.fr.trans' hb⟩
  case hPre => exact fun s W h => ⟨cell_of_block h.b1 rfl, cell_of_block h.b2 rfl, h.r⟩
  case round =>
    rintro l W x s h
    gi_wp2
    refine ⟨Kb.refl _, fun l W' hb hl => ?_⟩
    obtain ⟨k, h1, h2⟩ := h.n
    have hgw := HGW.out
    have g2 := hb.heap h2 rfl
    have hwl : w.heap.size ≤ w3.heap.size := by have := HG.out; omega
    have G1 := Lib.hid (hb.heap h.b1 rfl)
    have G2 := Lib.hid (hb.heap h.b2 rfl)
    have GR := Lib.hid (h.r.bk hb)
    have GF := Lib.hid (hb.fr h.fr hwl)
    have G0 := Lib.hid g2
    have c2 : W'.cell? ⟨g, 0, none⟩ = some (.int .i64 (k : Int)) := cell_of_block g2 rfl
    have f2 : W'.frozen? ⟨g, 0, none⟩ = false := frozen_of_block g2
    have hk1 : (k : Int) + 1 ≤ 4611686018427387904 := by have := HL.out; simp at h1; omega
    have H1 := Lib.hid h1
    clear h hb g2 h1 h2 hl
    gi_wp2
    have hst := fr_set W' g 0 (.int .i64 ((k : Int) + 1))
    have hfn : Fr no w (W'.setCell ⟨g, 0, none⟩ (.int .i64 ((k : Int) + 1))) := GF.out.trans hst (fun i hi e => by have := HG.out; omega)
    exact ⟨Kb.setCell _ _ _, ⟨⟨k + 1, by have := H1.out; simp at this; omega, by push_cast; exact heap_setC _ G0.out⟩, hst.heap G1.out (by omega), hst.heap G2.out (by omega), HR0.out.fr0 hfn, hfn⟩⟩
  case done =>
    rintro D W hD h hd _
    obtain ⟨k, h1, h2⟩ := h.n
    have c2 : W.cell? ⟨g, 0, none⟩ = some (.int .i64 (k : Int)) := cell_of_block h2 rfl
    have e : k = rlen r := by simpa using h1
    have E := Lib.hid e
    have G6 := Lib.hid h.fr
    have Hd := Lib.hid hd
    clear h1 h2 h hd e
    go_wp2
    refine leaveOne D rfl Hd.out (fun Wf hbf => ?_)
    refine ⟨_, by simp [results, Try.results13, go_sem]; rfl, by rw [E.out], hbf.fr G6.out (by have := HG.out; have := HGW.out; omega)⟩
/-- memory between two rounds of AppendSeq: b the slice's box -/
structure ApI (w w1 : World) (b : Nat) (v0 : Value) (l : List Dr) (Pre : World → Prop) (all : List Dr) (s : List Dr) (W : World) : Prop where
  x : ∃ (done : List Dr) (v : Value), done ++ s = all ∧ W.heap[b]? = some (.cells #[v] 41 (0, 0)) ∧ Sl W 34 6 v (l.length + done.length) (drCells (l ++ done)) ∧ (v.ownBlock = v0.ownBlock ∨ ∀ g, v.ownBlock = some g → w1.heap.size ≤ g)
  fr : Fr (fun k => v0.ownBlock = some k) w W
set_option maxRecDepth 10000 in
set_option maxHeartbeats 4000000 in
theorem append_seq {gf : Nat} {lb : Array Value} {Pre : World → Prop} (v0 : Value) (l all : List Dr) (w : World) (eg : ∀ args w, (callFunc gf args).run Try.prog w = .ok (.enter gf args) w) (hiter : EachF Fence.wide 2 Try.prog gf lb encDr Pre all)
    (hv : Sl w 34 6 v0 l.length (drCells l)) (hPre : ∀ W, Fr (fun k => v0.ownBlock = some k) w W → Pre W) (hone : ∀ W, Pre W → ∀ d ∈ all, DrOk W d) (hl : l.length ≤ 1000) (hal : all.length ≤ 10000) :
    Calls Try.prog 36 #[v0, .func (.func gf) #[] lb] w fun e w' => ∃ ao cap, e = .returned (.slice ao (l.length + all.length) cap) ∧ Sl w' 34 6 (.slice ao (l.length + all.length) cap) (l.length + all.length) (drCells (l ++ all)) ∧
      Fr (fun k => v0.ownBlock = some k) w w' ∧ (Value.ownBlock (.slice ao (l.length + all.length) cap) = v0.ownBlock ∨ ∀ g, Value.ownBlock (.slice ao (l.length + all.length) cap) = some g → w.heap.size ≤ g) := by
  obtain ⟨ao, cap, rfl, hc, hm⟩ := hv.cap
  obtain ⟨b, hb⟩ : ∃ b, w.heap.size = b := ⟨_, rfl⟩
  obtain ⟨w1, hw1⟩ : ∃ U, w.alloc (.cells #[.slice ao l.length cap] 41) = U := ⟨_, rfl⟩
  have hf1 : Fr no w w1 := by rw [← hw1]; exact (Fr.refl no w).alloc _
  have hb1 : w1.heap[b]? = some (.cells #[.slice ao l.length cap] 41 (0, 0)) := by rw [← hw1, ← hb]; exact World.alloc_heap_new _ _
  have hI0 : ApI w w1 b (.slice ao l.length cap) l Pre all all w1 := ⟨⟨[], _, rfl, hb1, by simpa using hv.fr hf1 (fun _ _ f => f), .inl rfl⟩, hf1.mono (fun _ _ f => f.elim)⟩
  have hsz : w1.heap.size = b + 1 := by rw [← hw1, ← hb]; simp
  have hvb := hv.lt
  have HI0 := Lib.hid hI0
  have HW1 := Lib.hid hw1
  have HS := Lib.hid hsz
  have HB := Lib.hid hb
  have Hiter := Lib.hid hiter
  have Heg := Lib.hid eg
  have HPre := Lib.hid hPre
  have Hone := Lib.hid hone
  have HVB := Lib.hid hvb
  obtain ⟨i0, hi0, hz0', hz1', hz2'⟩ := info_parts (show (Try.prog.info? 34).map (fun i => (i.zero, i.size, i.bytes)) = some (some (.agg #[.int .i64 0, .int .i64 0, .int .i64 0, .slice none 0 0, .string ByteArray.empty, .string ByteArray.empty]), 6, 80) by kernel_rfl)
  clear hv hw1 hf1 hb1 hI0 hsz hiter eg hPre hone hvb
  refine calls_of_in (n := 4) free_wide (callsIn_of_wp_marks Try.func36 rfl trivial (wpIn_wide.2 ?_) rfl)
  simp only [Try.ntmps36, List.size_toArray, List.length_cons, List.length_nil, Nat.reduceAdd, Nat.reduceSub, Array.replicate_succ, Array.replicate_zero, List.push_toArray, List.append_toArray, List.nil_append, List.cons_append]
  go_upto_region 1 with (fail)
  rw [HW1.out]
  try rw [hb]
  clear HW1
  go_wp2
  refine (wpIn_wide (n := 3)).1 ?_
  refine wpIn_eachF (ls := all) rfl (by intro h; cases h) (gf := gf) (lb := lb) rfl trivial Heg.out
    Hiter.out (fun _ => rfl) (ApI w w1 b (.slice ao l.length cap) l Pre all) (fun _ _ => False)
    ?hI (fun _ _ _ f _ => f) ?hIf ?hPre HI0.out ?round ?done (fun _ _ _ _ f => f.elim)
  case hI => exact fun s W W' h hb => ⟨by obtain ⟨d, v, h1, h2, h3, h4⟩ := h.x; exact ⟨d, v, h1, hb.heap h2 rfl, h3.bk hb, h4⟩, hb.fr h.fr (by have := HS.out; have := HB.out; omega)⟩
  case hIf => exact fun s W W' h hb => ⟨by obtain ⟨d, v, h1, h2, h3, h4⟩ := h.x; exact ⟨d, v, h1, hb.heap h2 (fun f => f), h3.fr hb (fun _ _ f => f), h4⟩, h.fr.trans hb (fun _ _ f => f.elim)⟩
  case hPre => exact fun s W h => HPre.out W h.fr
  case round =>
    rintro l' W x s h
    obtain ⟨dn', v, h1, h2, h3, h4⟩ := h.x
    have hok := Hone.out W (HPre.out W h.fr) x (by rw [← h1]; simp)
    obtain ⟨dO, dc, hdv, _, _⟩ := hok.cap
    obtain ⟨dn, hdn⟩ : ∃ n, x.dep.length = n := ⟨_, rfl⟩
    obtain ⟨dt, hdt⟩ : ∃ y, x.t = y := ⟨_, rfl⟩
    obtain ⟨ds, hds⟩ : ∃ y, x.s = y := ⟨_, rfl⟩
    obtain ⟨dq, hdq⟩ : ∃ y, x.q = y := ⟨_, rfl⟩
    obtain ⟨dk, hdk⟩ : ∃ y, x.key = y := ⟨_, rfl⟩
    obtain ⟨dx, hdx⟩ : ∃ y, x.val = y := ⟨_, rfl⟩
    have ed : x.v = .agg #[.int .i64 dt, .int .i64 ds, .int .i64 dq, .slice dO dn dc, .string dk, .string dx] := by unfold Dr.v; rw [hdv, hdn, hdt, hds, hdq, hdk, hdx]
    have ec : x.cs = [.int .i64 dt, .int .i64 ds, .int .i64 dq, .slice dO dn dc, .string dk, .string dx] := by unfold Dr.cs; rw [hdv, hdn, hdt, hds, hdq, hdk, hdx]
    have Ec := Lib.hid ec
    obtain ⟨vo, vc, rfl, _, _⟩ := h3.cap
    obtain ⟨n, hn⟩ : ∃ n, l.length + dn'.length = n := ⟨_, rfl⟩
    have hn2 : n ≤ 11000 := by rw [← hn]; have : dn'.length ≤ all.length := by rw [← h1]; simp
                               omega
    rw [hn] at h2 h3 h4
    have fa : Fr no W (W.alloc (.cells #[.int .i64 dt, .int .i64 ds, .int .i64 dq, .slice dO dn dc, .string dk, .string dx] 34)) := (Fr.refl no W).alloc _
    have hbx := World.alloc_heap_new W (.cells #[.int .i64 dt, .int .i64 ds, .int .i64 dq, .slice dO dn dc, .string dk, .string dx] 34)
    have hwf := h.fr
    have H1 := Lib.hid h1
    have Hn := Lib.hid hn
    unfold encDr
    rw [ed]
    clear hok hdv hdn hdt hds hdq hdk hdx ed ec h1 hn h
    gi_wp2
    refine ⟨Kb.alloc _ _, fun lid W' hb hl => ?_⟩
    have hwl : w.heap.size ≤ w1.heap.size := by have := HS.out; have := HB.out; omega
    have G2 := Lib.hid (hb.heap (fa.heap h2 (fun f => f)) rfl)
    have hbr := hb.heap hbx rfl
    have G3 := Lib.hid ((h3.fr fa (fun _ _ f => f)).bk hb)
    have GF := Lib.hid (hb.fr (hwf.trans fa (fun _ _ f => f.elim)) hwl)
    obtain ⟨gr, hgr⟩ : ∃ g, W.heap.size = g := ⟨_, rfl⟩
    rw [hgr] at hbr ⊢
    have cb : W'.cell? ⟨b, 0, none⟩ = some (.slice vo n vc) := cell_of_block G2.out rfl
    have d0 : W'.cell? ⟨gr, 0, none⟩ = some (.int .i64 dt) := cell_of_block hbr rfl
    have d1 : W'.cell? ⟨gr, 1, none⟩ = some (.int .i64 ds) := cell_of_block hbr rfl
    have d2 : W'.cell? ⟨gr, 2, none⟩ = some (.int .i64 dq) := cell_of_block hbr rfl
    have d3 : W'.cell? ⟨gr, 3, none⟩ = some (.slice dO dn dc) := cell_of_block hbr rfl
    have d4 : W'.cell? ⟨gr, 4, none⟩ = some (.string dk) := cell_of_block hbr rfl
    have d5 : W'.cell? ⟨gr, 5, none⟩ = some (.string dx) := cell_of_block hbr rfl
    have Hlit := Lib.hid (rd_lit1 W' 34 [.int .i64 dt, .int .i64 ds, .int .i64 dq, .slice dO dn dc, .string dk, .string dx])
    have fl : Fr no W' (W'.alloc (.cells #[.int .i64 dt, .int .i64 ds, .int .i64 dq, .slice dO dn dc, .string dk, .string dx] 34)) := (Fr.refl no W').alloc _
    have G4 := Lib.hid (G3.out.fr fl (fun _ _ f => f))
    have FL := Lib.hid fl
    have H4 := Lib.hid h4
    clear hb hl fa hbx hbr h2 h3 h4 hwf hgr fl hwl
    gi_wp2_with (gi_at_builtin; refine wpListIn_append_all (W'.alloc (.cells #[.int .i64 dt, .int .i64 ds, .int .i64 dq, .slice dO dn dc, .string dk, .string dx] 34)) rfl _ _ 41 rfl 34 i0 _ 6 80 Try.underlying41 hi0 hz0' hz1' hz2' rfl (by decide) _ _ _ rfl G4.out _ _ _ rfl Hlit.out (by simp [Value.oneCell']) (by unfold maxLen; omega) (by omega) ?_)
    intro ao' cap' w' hs' hf' hor' hkb'
    have hbn : ¬ (Value.slice vo n vc).ownBlock = some b := fun e => by
      rcases H4.out with e1 | e1
      · have := HVB.out b (by rw [← e1]; exact e); have := HB.out; omega
      · have := e1 b e; have := HS.out; omega
    have hgb := hf'.heap (FL.out.heap G2.out (fun f => f)) hbn
    have cb' : w'.cell? ⟨b, 0, none⟩ = some (.slice vo n vc) := cell_of_block hgb rfl
    have fb' : w'.frozen? ⟨b, 0, none⟩ = false := frozen_of_block hgb
    have hst := fr_set w' b 0 (.slice ao' (n + 1) cap')
    have hbw : w.heap.size ≤ b := by have := HB.out; omega
    have hown : Value.ownBlock (.slice ao' (n + 1) cap') = (Value.slice ao l.length cap).ownBlock ∨ ∀ g, Value.ownBlock (.slice ao' (n + 1) cap') = some g → w1.heap.size ≤ g := by
      have hws : w1.heap.size ≤ W'.heap.size := by
        have h2 := (Array.getElem?_eq_some_iff.1 G2.out).1
        have := HS.out
        omega
      rcases hor' with e | e
      · rw [e]; exact H4.out
      · exact .inr (fun g hg => by have := e g hg; (try simp at this); omega)
    have hbn' : ¬ Value.ownBlock (.slice ao' (n + 1) cap') = some b := fun e => by
      rcases hown with e1 | e1
      · have := HVB.out b (by rw [← e1]; exact e); have := HB.out; omega
      · have := e1 b e; have := HS.out; omega
    have hfin : Fr (fun k => (Value.slice ao l.length cap).ownBlock = some k) w (w'.setCell ⟨b, 0, none⟩ (.slice ao' (n + 1) cap')) := by
      refine ((GF.out.trans FL.out (fun _ _ f => f.elim)).trans hf' (fun i hi e => ?_)).trans hst (fun i hi e => by omega)
      rcases H4.out with e1 | e1
      · rw [← e1]; exact e
      · have := e1 i e; have := HS.out; omega
    have hsl : Sl (w'.setCell ⟨b, 0, none⟩ (.slice ao' (n + 1) cap')) 34 6 (.slice ao' (n + 1) cap') (l.length + (dn' ++ [x]).length) (drCells (l ++ (dn' ++ [x]))) := by
      have := hs'.fr hst (fun g hg e => hbn' (by rw [hg, e]))
      rw [← List.append_assoc, drCells_append, show drCells [x] = x.cs by simp [drCells], Ec.out, List.length_append, ← Nat.add_assoc, Hn.out]
      exact this
    have HX := Lib.hid (And.intro hsl (And.intro hown (And.intro hfin (heap_setC (j := 0) (.slice ao' (n + 1) cap') hgb))))
    have HK := Lib.hid (((Kb.alloc W' _).trans hkb').trans (Kb.setCell w' ⟨b, 0, none⟩ (.slice ao' (n + 1) cap')))
    clear hs' hf' hor' hkb' hbn hgb hst hown hbn' hfin hsl G2 G3 G4
    gi_wp2
    exact ⟨HK.out, ⟨⟨dn' ++ [x], _, by rw [← H1.out]; simp, HX.out.2.2.2, HX.out.1, HX.out.2.1⟩, HX.out.2.2.1⟩⟩
  case done =>
    rintro D W hD h hd _
    obtain ⟨dn', v, h1, h2, h3, h4⟩ := h.x
    rw [List.append_nil] at h1
    subst h1
    obtain ⟨vo, vc, rfl, _, _⟩ := h3.cap
    have cb : W.cell? ⟨b, 0, none⟩ = some (.slice vo (l.length + dn'.length) vc) := cell_of_block h2 rfl
    have H3 := Lib.hid h3
    have H4 := Lib.hid h4
    have HF := Lib.hid h.fr
    have Hd := Lib.hid hd
    clear h h2 h3 h4 hd
    go_wp2
    refine leaveOne D rfl Hd.out (fun Wf hbf => ?_)
    refine ⟨_, by simp [results, Try.results36, go_sem]; rfl, ?_⟩
    have h1 := H3.out.bk hbf
    have h2 := hbf.fr HF.out (by have := HS.out; have := HB.out; omega)
    exact ⟨vo, vc, rfl, h1, h2, H4.out.imp id (fun h g hg => by have := h g hg; have := HS.out; have := HB.out; omega)⟩
end Go.Proofs.Ytlohbikkhojlaaa
