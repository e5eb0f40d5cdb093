/- The walk of the law RecForms. -/
import Derived.Test.YtgcjnhocoklfbaaGreatDoorRcA
import Derived.Test.YtgcjnhocoklfbaaGreatDoorRc9
import Derived.Test.YtgcjnhocoklfbaaGreatDoorRc6
import Derived.Test.YtgcjnhocoklfbaaGreatDoorRcP
namespace Go.XL
open Go.RowKit Go.Shelf
theorem same_is {w w' : World} {r r' : Rc} {p : Rp} (h : RcIs w r p) (h' : RcIs w' r' p) : sameC r r' = true := by
  unfold sameC
  rw [h.s, h'.s, h.q, h'.q, h.dep, h'.dep, vcov_self, ByteArray.toList_eq, ByteArray.toList_eq, ByteArray.toList_eq, ByteArray.toList_eq, h.key, h'.key, h.val, h'.val]
  simp
theorem text_is {w : World} {r : Rc} {p : Rp} (h : RcIs w r p) : r.text = rtext p.s p.q p.dep p.key p.val := by
  unfold Rc.text
  rw [h.s, h.q, h.dep, h.key, h.val]
theorem rparse_ok {l : List UInt8} (h : (rparse l).2 = 0) : rcheck (rparse l).1.s (rparse l).1.q (rparse l).1.dep (rparse l).1.key (rparse l).1.val 8 = 0 := by
  unfold rparse at h ⊢
  cases hr : rwords l with
  | none => rw [hr] at h; cases h
  | some x =>
    obtain ⟨r, d⟩ := x
    rw [hr] at h
    dsimp only at h ⊢
    by_cases h1 : (vparse d).2 = 0
    · by_cases h2 : rcheck r.s r.q (vparse d).1 r.key r.val 8 = 0
      · rw [if_neg (by simpa using h1), if_neg (by simpa using h2)]
        exact h2
      · rw [if_neg (by simpa using h1), if_pos h2] at h
        exact absurd h h2
    · rw [if_pos h1] at h
      exact absurd h h1
/-- of a record that is read: how great it may be -/
theorem is_small {w : World} {r : Rc} {l : List UInt8} (h : RcIs w r (rparse l).1) (h0 : (rparse l).2 = 0) : I64s r.dep ∧ (-9223372036854775808 ≤ r.s ∧ r.s ≤ 9223372036854775807) ∧ (-9223372036854775808 ≤ r.q ∧ r.q ≤ 9223372036854775807) ∧ r.dep.length ≤ 1000 ∧ r.key.size ≤ 1000000 ∧ r.val.size ≤ 1000000 := by
  have hc := rparse_ok h0
  rw [← h.s, ← h.q, ← h.dep, ← h.key, ← h.val] at hc
  obtain ⟨a1, a2, a3, a4, a5, a6, a7, a8, a9⟩ := rcheck_ok hc
  obtain ⟨b1, b2⟩ := vcheck_zero a7
  have hk : r.key.size ≤ 8 ∧ r.val.size ≤ 16 := by
    unfold rccell at a9
    rw [data_len, data_len] at a9
    split at a9
    · cases a9
    · split at a9
      · cases a9
      · split at a9
        · cases a9
        · omega
  exact ⟨fun x hx => by have := b2 x hx; omega, by omega, by omega, by omega, by omega, by omega⟩
theorem kv_check {s q : Int} (h1 : 0 ≤ s) (h2 : s < 8) (h3 : 1 ≤ q) (h4 : q ≤ 65536) : rcheck s q [] [107] [118] 8 = 0 := by
  unfold rcheck
  rw [if_neg (by omega), if_neg (by decide), if_neg (by unfold vget; rw [if_neg (by simp)]; omega)]
  rfl
theorem kv_len {s q : Int} (h1 : 0 ≤ s) (h2 : s < 8) (h3 : 1 ≤ q) (h4 : q ≤ 65536) : 8 ≤ (rtext s q [] [107] [118]).length ∧ (rtext s q [] [107] [118]).length ≤ 100 := by
  have hl := rtext_len (s := s) (q := q) (dep := []) (key := [107]) (val := [118]) (by intro x hx; cases hx) (by omega) (by omega)
  have d1 : Lib.itoa s ≠ [] := by rw [itoa_nat h1]; exact (decDigits_dig s.toNat).2.1
  have d2 : Lib.itoa q ≠ [] := by rw [itoa_nat (by omega)]; exact (decDigits_dig q.toNat).2.1
  have e1 := List.length_pos_iff.2 d1
  have e2 := List.length_pos_iff.2 d2
  refine ⟨?_, by simp at hl; omega⟩
  unfold rtext
  rw [show vtext [] = [91, 93] by simp [vtext, vlast, vallF, wjoin]]
  simp
  omega
theorem not_same {w : World} {r r0 : Rc} {T S : ByteArray} (h : RcIs w r (rparse T.data.toList).1) (h0 : (rparse T.data.toList).2 = 0) (hS : r0.text = S.data.toList) (hn : T.size ≠ S.size) : sameC r r0 = false := by
  cases hc : sameC r r0 with
  | false => rfl
  | true =>
    have e := same_text hc
    rw [text_is h, rtext_rparse h0, hS] at e
    exact absurd (by rw [← data_len, ← data_len, e]) hn
theorem text_back {w : World} {r : Rc} {T : ByteArray} (h : RcIs w r (rparse T.data.toList).1) (h0 : (rparse T.data.toList).2 = 0) : (⟨r.text.toArray⟩ : ByteArray) = T := by
  rw [text_is h, rtext_rparse h0]
end Go.XL
namespace Go.Proofs.YtgcjnhocoklfbaaGreatDoor
open Go.RowKit Go.Shelf Go.XL Go.ChangeShapes Go.WideShapes Go.ChangeAt
set_option linter.unusedVariables false
set_option linter.unusedSimpArgs false
attribute [local go_sem] Oper.semAt_some
set_option maxRecDepth 100000 in
set_option maxHeartbeats 8000000 in
theorem recForms_any (site seq at_ how : Int) (w : World) (hG : GlU w) (h1 : 0 ≤ site ∧ site ≤ 255) (h2 : 0 ≤ seq ∧ seq ≤ 65535) (h3 : 0 ≤ at_ ∧ at_ ≤ 255) (h4 : 0 ≤ how ∧ how ≤ 255) :
    Calls Tryz.prog 9 #[.int .u8 site, .int .u16 seq, .int .u8 at_, .int .u8 how] w fun e w' => e = .returned (.bool true) ∧ Fr no w w' := by
  have hk := rknown w hG
  have HG := Lib.hid hG
  clear hG
  obtain ⟨s1, hs1⟩ : ∃ s, site % 8 = s := ⟨_, rfl⟩
  obtain ⟨q1, hq1⟩ : ∃ q, 1 + seq = q := ⟨_, rfl⟩
  have b1 : 0 ≤ s1 ∧ s1 < 8 := by omega
  have b2 : 1 ≤ q1 ∧ q1 ≤ 65536 := by omega
  obtain ⟨a, ha⟩ : ∃ r : Rc, (⟨s1, q1, .slice none 0 0, [], ⟨#[107]⟩, ⟨#[118]⟩⟩ : Rc) = r := ⟨_, rfl⟩
  have ea : a.v = .agg #[.int .i64 s1, .int .i64 q1, .slice none 0 0, .string ⟨#[107]⟩, .string ⟨#[118]⟩] := by rw [← ha]; rfl
  have et : a.text = rtext s1 q1 [] [107] [118] := by rw [← ha]; rfl
  have HA : ∀ {W : World}, Hid (RcOk W a) := fun {W} => Lib.hid (by rw [← ha]; exact (Sl.nil W 0 1).rd)
  have Hts := Lib.hid (fun (W : World) (h : Gl W) => r_text a W HA.out (by rw [← ha]; intro x hx; cases hx) (by rw [← ha]; dsimp only; omega) (by rw [← ha]; dsimp only; omega) (by rw [← ha]; exact Nat.zero_le _) (by rw [← ha]; dsimp only; decide) (by rw [← ha]; dsimp only; decide) h)
  have Ea := Lib.hid ea
  have Et := Lib.hid et
  have Hlen := Lib.hid (kv_len b1.1 b1.2 b2.1 b2.2)
  have Hkv := Lib.hid (kv_check b1.1 b1.2 b2.1 b2.2)
  have hs1t : site.tmod 8 = s1 := by rw [Int.tmod_eq_emod_of_nonneg h1.1]; exact hs1
  clear ha ea et
  go_enter Tryz.func9, Tryz.ntmps9
  go_wp2_with fail
  refine hk.mono ?_
  rintro e w1 ⟨rfl, hf1⟩
  have F := Lib.hid hf1
  clear hk hf1
  go_upto_region 4 with (fail)
  try rw [hs1]
  try rw [hs1t]
  try rw [hq1]
  clear hs1 hs1t hq1 h1 h2
  obtain ⟨u0, hu0⟩ : ∃ U, w1.alloc (.cells #[.int .i64 s1, .int .i64 q1, .slice none 0 0, .string ⟨#[107]⟩, .string ⟨#[118]⟩] 25) = U := ⟨_, rfl⟩
  obtain ⟨gx, hgx⟩ : ∃ g, w1.heap.size = g := ⟨_, rfl⟩
  have hbx : u0.heap[gx]? = some (.cells #[.int .i64 s1, .int .i64 q1, .slice none 0 0, .string ⟨#[107]⟩, .string ⟨#[118]⟩] 25 (0, 0)) := by rw [← hu0, ← hgx]; exact World.alloc_heap_new _ _
  have hfd : Fr no w1 u0 := by rw [← hu0]; exact (Fr.refl no w1).alloc _
  rw [hu0, hgx]
  replace F := Lib.hid (F.out.trans' hfd)
  have BX := Lib.hid hbx
  clear hbx hu0 hgx hfd
  have xc0 : u0.cell? ⟨gx, 0, none⟩ = some (.int .i64 s1) := cell_of_block BX.out rfl
  have xc1 : u0.cell? ⟨gx, 1, none⟩ = some (.int .i64 q1) := cell_of_block BX.out rfl
  have xc2 : u0.cell? ⟨gx, 2, none⟩ = some (.slice none 0 0) := cell_of_block BX.out rfl
  have xc3 : u0.cell? ⟨gx, 3, none⟩ = some (.string ⟨#[107]⟩) := cell_of_block BX.out rfl
  have xc4 : u0.cell? ⟨gx, 4, none⟩ = some (.string ⟨#[118]⟩) := cell_of_block BX.out rfl
  have hc := Hts.out u0 (HG.out.fr F.out).1
  obtain ⟨S, hS⟩ : ∃ S : ByteArray, (⟨a.text.toArray⟩ : ByteArray) = S := ⟨_, rfl⟩
  have HS : Hid (a.text = S.data.toList) := Lib.hid (by rw [← hS])
  have HSl : Hid (S.data.toList = rtext s1 q1 [] [107] [118]) := Lib.hid (by rw [← hS, ← Et.out])
  have hsz : 8 ≤ S.size ∧ S.size ≤ 100 := by rw [← data_len, HSl.out]; exact Hlen.out
  rw [hS, Ea.out] at hc
  clear hS Hts Et Hlen
  go_wp2_with fail
  refine hc.mono ?_
  clear hc
  rintro e u1 ⟨rfl, hfd⟩
  replace F := Lib.hid (F.out.trans' hfd)
  replace BX := Lib.hid (hfd.heap BX.out (fun f => f))
  clear hfd
  clear xc0 xc1 xc2 xc3 xc4
  obtain ⟨hz1, hz2⟩ := hsz
  have y1 : ¬ (S.size : Int) < 8 := by omega
  obtain ⟨i, hi⟩ : ∃ i : Nat, at_ % (S.size : Int) = (i : Int) := ⟨(at_ % (S.size : Int)).toNat, by have := Int.emod_nonneg at_ (b := (S.size : Int)) (by omega); omega⟩
  have hil : i < S.size := by have := Int.emod_lt_of_pos at_ (b := (S.size : Int)) (by omega); omega
  have hit : at_.tmod (S.size : Int) = i := by rw [Int.tmod_eq_emod_of_nonneg h3.1]; exact hi
  have hzs : (S.size : Int) ≠ 0 := by omega
  have hzs2 : ((S.size : Int) == 0) = false := by simpa using hzs
  have hq : how % 3 = 0 ∨ how % 3 = 1 ∨ how % 3 = 2 := by omega
  have ht : how.tmod 3 = how % 3 := Int.tmod_eq_emod_of_nonneg h4.1
  rcases hq with hq | hq | hq
  · rw [hq] at ht
    go_wp2_with fail
    go_quiet (fail)
    obtain ⟨u3, hu3⟩ : ∃ U, u1.drewN nq = U := ⟨_, rfl⟩
    have hfd : Fr no u1 u3 := by rw [← hu3]; exact (Fr.refl no u1).drewN nq
    rw [hu3]
    replace F := Lib.hid (F.out.trans' hfd)
    replace BX := Lib.hid (hfd.heap BX.out (fun f => f))
    clear hfd
    clear hu3
    go_upto_region 16 with (fail)
    obtain ⟨T, hT⟩ : ∃ T : ByteArray, S.extract 0 i ++ ⟨#[32]⟩ ++ S.extract i S.size = T := ⟨_, rfl⟩
    rw [hT]
    have hTs : T.size = S.size + 1 := by rw [← hT, ByteArray.size_append, ByteArray.size_append, ByteArray.size_extract, ByteArray.size_extract, show (⟨#[32]⟩ : ByteArray).size = 1 from rfl]; omega
    have HTs : Hid (T.size ≠ S.size) := Lib.hid (by omega)
    have HTb : Hid (T.size ≤ 100000) := Lib.hid (by omega)
    clear hT hTs
    have hc := r_parse T u3 HTb.out (HG.out.fr F.out)
    have hc2 := fun W (hW : Fr no u3 W) => ref_parserec T W HTb.out
    obtain ⟨f, hf⟩ : ∃ f, (rparse T.data.toList).2 = f := ⟨_, rfl⟩
    rw [hf] at hc hc2
    have Hf := Lib.hid hf
    have Hc2 := Lib.hid hc2
    clear hf hc2
    go_wp2_with fail
    refine hc.mono ?_
    clear hc
    rintro e u4 ⟨b, rfl, hb, hfd⟩
    replace F := Lib.hid (F.out.trans' hfd)
    replace BX := Lib.hid (hfd.heap BX.out (fun f => f))
    clear hfd
    have HB := Lib.hid hb
    obtain ⟨s2, q2, v2, d2, k2, x2⟩ := b
    obtain ⟨o2, c2, hv2, _, _⟩ := Rd.cap hb.ok
    dsimp only at hv2
    subst hv2
    obtain ⟨b, hbb⟩ : ∃ r : Rc, (⟨s2, q2, .slice o2 d2.length c2, d2, k2, x2⟩ : Rc) = r := ⟨_, rfl⟩
    have eb : b.v = .agg #[.int .i64 s2, .int .i64 q2, .slice o2 d2.length c2, .string k2, .string x2] := by rw [← hbb]; rfl
    rw [hbb] at HB ⊢
    rw [eb]
    clear hb hbb
    generalize d2.length = n2 at *
    have Eb := Lib.hid eb
    clear eb
    go_upto_region 17 with (fail)
    obtain ⟨u5, hu5⟩ : ∃ U, u4.alloc (.cells #[.int .i64 s2, .int .i64 q2, .slice o2 n2 c2, .string k2, .string x2] 25) = U := ⟨_, rfl⟩
    obtain ⟨gy, hgy⟩ : ∃ g, u4.heap.size = g := ⟨_, rfl⟩
    have hby : u5.heap[gy]? = some (.cells #[.int .i64 s2, .int .i64 q2, .slice o2 n2 c2, .string k2, .string x2] 25 (0, 0)) := by rw [← hu5, ← hgy]; exact World.alloc_heap_new _ _
    have hfd : Fr no u4 u5 := by rw [← hu5]; exact (Fr.refl no u4).alloc _
    rw [hu5, hgy]
    replace HB := Lib.hid ({ HB.out with ok := HB.out.ok.fr hfd } : RcIs u5 b (rparse T.data.toList).1)
    replace F := Lib.hid (F.out.trans' hfd)
    replace BX := Lib.hid (hfd.heap BX.out (fun f => f))
    clear hfd
    have BY := Lib.hid hby
    clear hby hu5 hgy
    have hc := ref_parserec T u5 HTb.out
    rw [Hf.out] at hc
    clear Hc2
    go_wp2_with fail
    refine hc.mono ?_
    clear hc
    rintro e u6 ⟨c, rfl, hb, hfd⟩
    replace HB := Lib.hid ({ HB.out with ok := HB.out.ok.fr hfd } : RcIs u6 b (rparse T.data.toList).1)
    replace BY := Lib.hid (hfd.heap BY.out (fun f => f))
    replace F := Lib.hid (F.out.trans' hfd)
    replace BX := Lib.hid (hfd.heap BX.out (fun f => f))
    clear hfd
    have HC := Lib.hid hb
    obtain ⟨s3, q3, v3, d3, k3, x3⟩ := c
    obtain ⟨o3, c3, hv3, _, _⟩ := Rd.cap hb.ok
    dsimp only at hv3
    subst hv3
    obtain ⟨c, hcc⟩ : ∃ r : Rc, (⟨s3, q3, .slice o3 d3.length c3, d3, k3, x3⟩ : Rc) = r := ⟨_, rfl⟩
    have ec : c.v = .agg #[.int .i64 s3, .int .i64 q3, .slice o3 d3.length c3, .string k3, .string x3] := by rw [← hcc]; rfl
    rw [hcc] at HC ⊢
    rw [ec]
    clear hb hcc
    generalize d3.length = n3 at *
    have Ec := Lib.hid ec
    clear ec
    go_upto_region 18 with (fail)
    obtain ⟨u7, hu7⟩ : ∃ U, u6.alloc (.cells #[.int .i64 s3, .int .i64 q3, .slice o3 n3 c3, .string k3, .string x3] 29) = U := ⟨_, rfl⟩
    obtain ⟨gz, hgz⟩ : ∃ g, u6.heap.size = g := ⟨_, rfl⟩
    have hbz : u7.heap[gz]? = some (.cells #[.int .i64 s3, .int .i64 q3, .slice o3 n3 c3, .string k3, .string x3] 29 (0, 0)) := by rw [← hu7, ← hgz]; exact World.alloc_heap_new _ _
    have hfd : Fr no u6 u7 := by rw [← hu7]; exact (Fr.refl no u6).alloc _
    rw [hu7, hgz]
    replace HB := Lib.hid ({ HB.out with ok := HB.out.ok.fr hfd } : RcIs u7 b (rparse T.data.toList).1)
    replace HC := Lib.hid ({ HC.out with ok := HC.out.ok.fr hfd } : RcIs u7 c (rparse T.data.toList).1)
    replace BY := Lib.hid (hfd.heap BY.out (fun f => f))
    replace F := Lib.hid (F.out.trans' hfd)
    replace BX := Lib.hid (hfd.heap BX.out (fun f => f))
    clear hfd
    have BZ := Lib.hid hbz
    clear hbz hu7 hgz
    have yc0 : u7.cell? ⟨gy, 0, none⟩ = some (.int .i64 s2) := cell_of_block BY.out rfl
    have yc1 : u7.cell? ⟨gy, 1, none⟩ = some (.int .i64 q2) := cell_of_block BY.out rfl
    have yc2 : u7.cell? ⟨gy, 2, none⟩ = some (.slice o2 n2 c2) := cell_of_block BY.out rfl
    have yc3 : u7.cell? ⟨gy, 3, none⟩ = some (.string k2) := cell_of_block BY.out rfl
    have yc4 : u7.cell? ⟨gy, 4, none⟩ = some (.string x2) := cell_of_block BY.out rfl
    have zc0 : u7.cell? ⟨gz, 0, none⟩ = some (.int .i64 s3) := cell_of_block BZ.out rfl
    have zc1 : u7.cell? ⟨gz, 1, none⟩ = some (.int .i64 q3) := cell_of_block BZ.out rfl
    have zc2 : u7.cell? ⟨gz, 2, none⟩ = some (.slice o3 n3 c3) := cell_of_block BZ.out rfl
    have zc3 : u7.cell? ⟨gz, 3, none⟩ = some (.string k3) := cell_of_block BZ.out rfl
    have zc4 : u7.cell? ⟨gz, 4, none⟩ = some (.string x3) := cell_of_block BZ.out rfl
    have hof := fun W (hW : Fr no u7 W) => law_of b W (HB.out.ok.fr hW)
    have hsm := fun W (hW : Fr no u7 W) => ref_samerec b c W (HB.out.ok.fr hW) (HC.out.ok.fr hW)
    rw [Eb.out] at hof
    rw [same_is HB.out HC.out, Eb.out, Ec.out] at hsm
    have Hof := Lib.hid hof
    have Hsm := Lib.hid hsm
    have hne : (f != f) = false := by simp
    clear hof hsm
    skip
    refine wp_held (fun w' => w'.cell? ⟨gy, 0, none⟩ = some (.int .i64 s2) ∧ w'.cell? ⟨gy, 1, none⟩ = some (.int .i64 q2) ∧ w'.cell? ⟨gy, 2, none⟩ = some (.slice o2 n2 c2) ∧ w'.cell? ⟨gy, 3, none⟩ = some (.string k2) ∧ w'.cell? ⟨gy, 4, none⟩ = some (.string x2) ∧ w'.cell? ⟨gz, 0, none⟩ = some (.int .i64 s3) ∧ w'.cell? ⟨gz, 1, none⟩ = some (.int .i64 q3) ∧ w'.cell? ⟨gz, 2, none⟩ = some (.slice o3 n3 c3) ∧ w'.cell? ⟨gz, 3, none⟩ = some (.string k3) ∧ w'.cell? ⟨gz, 4, none⟩ = some (.string x3)) (by kernel_rfl) ?_ (fun hHeld => ?_)
    · exact ⟨yc0, yc1, yc2, yc3, yc4, zc0, zc1, zc2, zc3, zc4⟩
    refine held_take (v := ?_) 0 rfl (by kernel_rfl) (.inl ⟨by rfl, ?_⟩) hHeld ?_
    rotate_left
    · intro w hSw; (try dsimp only at hSw); first | (go_simp; done) | (go_simp; with_reducible rfl)
    try simp only [Act.put, List.setIfInBounds_toArray, List.set_cons_zero, List.set_cons_succ]
    refine held_take (v := ?_) 1 rfl (by kernel_rfl) (.inl ⟨by rfl, ?_⟩) hHeld ?_
    rotate_left
    · intro w hSw; (try dsimp only at hSw); first | (go_simp; done) | (go_simp; with_reducible rfl)
    try simp only [Act.put, List.setIfInBounds_toArray, List.set_cons_zero, List.set_cons_succ]
    refine held_take (v := ?_) 2 rfl (by kernel_rfl) (.inl ⟨by rfl, ?_⟩) hHeld ?_
    rotate_left
    · intro w hSw; (try dsimp only at hSw); first | (go_simp; done) | (go_simp; with_reducible rfl)
    try simp only [Act.put, List.setIfInBounds_toArray, List.set_cons_zero, List.set_cons_succ]
    refine held_take (v := ?_) 3 rfl (by kernel_rfl) (.inl ⟨by rfl, ?_⟩) hHeld ?_
    rotate_left
    · intro w hSw; (try dsimp only at hSw); first | (go_simp; done) | (go_simp; with_reducible rfl)
    try simp only [Act.put, List.setIfInBounds_toArray, List.set_cons_zero, List.set_cons_succ]
    refine held_take (v := ?_) 4 rfl (by kernel_rfl) (.inl ⟨by rfl, ?_⟩) hHeld ?_
    rotate_left
    · intro w hSw; (try dsimp only at hSw); first | (go_simp; done) | (go_simp; with_reducible rfl)
    try simp only [Act.put, List.setIfInBounds_toArray, List.set_cons_zero, List.set_cons_succ]
    refine held_take (v := ?_) 6 rfl (by kernel_rfl) (.inl ⟨by rfl, ?_⟩) hHeld ?_
    rotate_left
    · intro w hSw; (try dsimp only at hSw); first | (go_simp; done) | (go_simp; with_reducible rfl)
    try simp only [Act.put, List.setIfInBounds_toArray, List.set_cons_zero, List.set_cons_succ]
    refine held_call 5 rfl (by kernel_rfl) (fun K hK => ?_)
    go_simp
    go_at_call 12; refine (Hof.out _ (Fr.drew (Fr.refl no u7))).mono ?_; rintro e wa ⟨rfl, hfd⟩; have HF := Lib.hid ((Fr.drew (Fr.refl no u7)).trans' hfd); clear hfd
    refine hK.out _ _ ?_ (fun hHeld' => ?_)
    · have hb1 := HF.out.heap BY.out (fun f => f); have hb2 := HF.out.heap BZ.out (fun f => f); exact ⟨cell_of_block hb1 rfl, cell_of_block hb1 rfl, cell_of_block hb1 rfl, cell_of_block hb1 rfl, cell_of_block hb1 rfl, cell_of_block hb2 rfl, cell_of_block hb2 rfl, cell_of_block hb2 rfl, cell_of_block hb2 rfl, cell_of_block hb2 rfl⟩
    clear hK K hHeld
    have hHeld := hHeld'
    clear hHeld'
    try simp only [Act.put, List.setIfInBounds_toArray, List.set_cons_zero, List.set_cons_succ]
    refine held_call 7 rfl (by kernel_rfl) (fun K hK => ?_)
    go_simp
    go_at_call 18; refine (Hsm.out _ HF.out).mono ?_; rintro e wa ⟨rfl, hfd⟩; replace HF := Lib.hid (HF.out.trans' hfd); clear hfd
    refine hK.out _ _ ?_ (fun hHeld' => ?_)
    · have hb1 := HF.out.heap BY.out (fun f => f); have hb2 := HF.out.heap BZ.out (fun f => f); exact ⟨cell_of_block hb1 rfl, cell_of_block hb1 rfl, cell_of_block hb1 rfl, cell_of_block hb1 rfl, cell_of_block hb1 rfl, cell_of_block hb2 rfl, cell_of_block hb2 rfl, cell_of_block hb2 rfl, cell_of_block hb2 rfl, cell_of_block hb2 rfl⟩
    clear hK K hHeld
    have hHeld := hHeld'
    clear hHeld'
    try simp only [Act.put, List.setIfInBounds_toArray, List.set_cons_zero, List.set_cons_succ]
    refine held_take (v := ?_) 8 rfl (by kernel_rfl) (.inl ⟨by rfl, ?_⟩) hHeld ?_
    rotate_left
    · intro w hSw; (try dsimp only at hSw); first | (go_simp; done) | (go_simp; with_reducible rfl)
    try simp only [Act.put, List.setIfInBounds_toArray, List.set_cons_zero, List.set_cons_succ]
    refine held_take (v := ?_) 9 rfl (by kernel_rfl) (.inl ⟨by rfl, ?_⟩) hHeld ?_
    rotate_left
    · intro w hSw; (try dsimp only at hSw); first | (go_simp; done) | (go_simp; with_reducible rfl)
    try simp only [Act.put, List.setIfInBounds_toArray, List.set_cons_zero, List.set_cons_succ]
    refine held_take (v := ?_) 10 rfl (by kernel_rfl) (.inl ⟨by rfl, ?_⟩) hHeld ?_
    rotate_left
    · intro w hSw; (try dsimp only at hSw); first | (go_simp; done) | (go_simp; with_reducible rfl)
    try simp only [Act.put, List.setIfInBounds_toArray, List.set_cons_zero, List.set_cons_succ]
    refine held_take (v := ?_) 11 rfl (by kernel_rfl) (.inl ⟨by rfl, ?_⟩) hHeld ?_
    rotate_left
    · intro w hSw; (try dsimp only at hSw); first | (go_simp; done) | (go_simp; with_reducible rfl)
    try simp only [Act.put, List.setIfInBounds_toArray, List.set_cons_zero, List.set_cons_succ]
    refine held_take (v := ?_) 12 rfl (by kernel_rfl) (.inl ⟨by rfl, ?_⟩) hHeld ?_
    rotate_left
    · intro w hSw; (try dsimp only at hSw); first | (go_simp; done) | (go_simp; with_reducible rfl)
    try simp only [Act.put, List.setIfInBounds_toArray, List.set_cons_zero, List.set_cons_succ]
    refine held_take (v := ?_) 13 rfl (by kernel_rfl) (.inl ⟨by rfl, ?_⟩) hHeld ?_
    rotate_left
    · intro w hSw; (try dsimp only at hSw); first | (go_simp; done) | (go_simp; with_reducible rfl)
    try simp only [Act.put, List.setIfInBounds_toArray, List.set_cons_zero, List.set_cons_succ]
    refine held_take (v := ?_) 14 rfl (by kernel_rfl) (.inl ⟨by rfl, ?_⟩) hHeld ?_
    rotate_left
    · intro w hSw; (try dsimp only at hSw); first | (go_simp; done) | (go_simp; with_reducible rfl)
    try simp only [Act.put, List.setIfInBounds_toArray, List.set_cons_zero, List.set_cons_succ]
    refine held_take 15 rfl (by kernel_rfl) (.inr ⟨by rfl, rfl⟩) hHeld ?_
    try simp only [Act.put, List.setIfInBounds_toArray, List.set_cons_zero, List.set_cons_succ]
    refine held_take 16 rfl (by kernel_rfl) (.inr ⟨by rfl, rfl⟩) hHeld ?_
    try simp only [Act.put, List.setIfInBounds_toArray, List.set_cons_zero, List.set_cons_succ]
    refine held_take (v := ?_) 17 rfl (by kernel_rfl) (.inl ⟨by rfl, ?_⟩) hHeld ?_
    rotate_left
    · intro w hSw; (try dsimp only at hSw); first | (go_simp; done) | (go_simp; with_reducible rfl)
    try simp only [Act.put, List.setIfInBounds_toArray, List.set_cons_zero, List.set_cons_succ]
    refine held_take (v := ?_) 18 rfl (by kernel_rfl) (.inl ⟨by rfl, ?_⟩) hHeld ?_
    rotate_left
    · intro w hSw; (try dsimp only at hSw); first | (go_simp; done) | (go_simp; with_reducible rfl)
    try simp only [Act.put, List.setIfInBounds_toArray, List.set_cons_zero, List.set_cons_succ]
    refine held_done (by kernel_rfl) ?_
    try clear hHeld
    have hfd := HF.out
    replace HB := Lib.hid ({ HB.out with ok := HB.out.ok.fr hfd } : RcIs wa b (rparse T.data.toList).1)
    replace BY := Lib.hid (hfd.heap BY.out (fun f => f))
    replace F := Lib.hid (F.out.trans' hfd)
    replace BX := Lib.hid (hfd.heap BX.out (fun f => f))
    clear hfd
    clear Hof Hsm HF HC BZ zc0 zc1 zc2 zc3 zc4 yc0 yc1 yc2 yc3 yc4
    generalize wa = u8 at *
    by_cases h0 : f = 0
    · subst h0
      have hz := is_small HB.out Hf.out
      have hc := r_text b u8 HB.out.ok hz.1 hz.2.1 hz.2.2.1 hz.2.2.2.1 hz.2.2.2.2.1 hz.2.2.2.2.2 (HG.out.fr F.out).1
      rw [text_back HB.out Hf.out, Eb.out] at hc
      have hsm := fun W (hW : Fr no u8 W) => r_same b a W (HB.out.ok.fr hW) HA.out
      rw [not_same HB.out Hf.out HS.out HTs.out, Eb.out, Ea.out] at hsm
      have Hc := Lib.hid hc
      have Hsm := Lib.hid hsm
      have hTT : (T.toList == T.toList) = true := by simp
      clear hz hc hsm
      have xc0 : u8.cell? ⟨gx, 0, none⟩ = some (.int .i64 s1) := cell_of_block BX.out rfl
      have xc1 : u8.cell? ⟨gx, 1, none⟩ = some (.int .i64 q1) := cell_of_block BX.out rfl
      have xc2 : u8.cell? ⟨gx, 2, none⟩ = some (.slice none 0 0) := cell_of_block BX.out rfl
      have xc3 : u8.cell? ⟨gx, 3, none⟩ = some (.string ⟨#[107]⟩) := cell_of_block BX.out rfl
      have xc4 : u8.cell? ⟨gx, 4, none⟩ = some (.string ⟨#[118]⟩) := cell_of_block BX.out rfl
      have yc0 : u8.cell? ⟨gy, 0, none⟩ = some (.int .i64 s2) := cell_of_block BY.out rfl
      have yc1 : u8.cell? ⟨gy, 1, none⟩ = some (.int .i64 q2) := cell_of_block BY.out rfl
      have yc2 : u8.cell? ⟨gy, 2, none⟩ = some (.slice o2 n2 c2) := cell_of_block BY.out rfl
      have yc3 : u8.cell? ⟨gy, 3, none⟩ = some (.string k2) := cell_of_block BY.out rfl
      have yc4 : u8.cell? ⟨gy, 4, none⟩ = some (.string x2) := cell_of_block BY.out rfl
      go_wp2_with fail
      refine Hc.out.mono ?_
      rintro e u9 ⟨rfl, hfd⟩
      have hfr := hfd
      replace BY := Lib.hid (hfd.heap BY.out (fun f => f))
      replace F := Lib.hid (F.out.trans' hfd)
      replace BX := Lib.hid (hfd.heap BX.out (fun f => f))
      clear hfd
      clear xc0 xc1 xc2 xc3 xc4 yc0 yc1 yc2 yc3 yc4
      have xc0 : u9.cell? ⟨gx, 0, none⟩ = some (.int .i64 s1) := cell_of_block BX.out rfl
      have xc1 : u9.cell? ⟨gx, 1, none⟩ = some (.int .i64 q1) := cell_of_block BX.out rfl
      have xc2 : u9.cell? ⟨gx, 2, none⟩ = some (.slice none 0 0) := cell_of_block BX.out rfl
      have xc3 : u9.cell? ⟨gx, 3, none⟩ = some (.string ⟨#[107]⟩) := cell_of_block BX.out rfl
      have xc4 : u9.cell? ⟨gx, 4, none⟩ = some (.string ⟨#[118]⟩) := cell_of_block BX.out rfl
      have yc0 : u9.cell? ⟨gy, 0, none⟩ = some (.int .i64 s2) := cell_of_block BY.out rfl
      have yc1 : u9.cell? ⟨gy, 1, none⟩ = some (.int .i64 q2) := cell_of_block BY.out rfl
      have yc2 : u9.cell? ⟨gy, 2, none⟩ = some (.slice o2 n2 c2) := cell_of_block BY.out rfl
      have yc3 : u9.cell? ⟨gy, 3, none⟩ = some (.string k2) := cell_of_block BY.out rfl
      have yc4 : u9.cell? ⟨gy, 4, none⟩ = some (.string x2) := cell_of_block BY.out rfl
      have hsm := Hsm.out u9 hfr
      clear hfr Hc Hsm
      go_wp2_with fail
      refine hsm.mono ?_
      rintro e u10 ⟨rfl, hfd⟩
      replace F := Lib.hid (F.out.trans' hfd)
      replace BX := Lib.hid (hfd.heap BX.out (fun f => f))
      clear hfd
      clear hsm xc0 xc1 xc2 xc3 xc4 yc0 yc1 yc2 yc3 yc4
      go_wp2
      go_ret
      exact ⟨rfl, F.out⟩
    · have hf0 : (f != 0) = true := by simpa using h0
      clear h0
      go_wp2
      go_ret
      exact ⟨rfl, F.out⟩
  · rw [hq] at ht
    go_upto_region 16 with (fail)
    obtain ⟨T, hT⟩ : ∃ T : ByteArray, (⟨#[48]⟩ : ByteArray) ++ S = T := ⟨_, rfl⟩
    rw [hT]
    have hTs : T.size = S.size + 1 := by rw [← hT, ByteArray.size_append]; exact Nat.add_comm 1 S.size
    have HTs : Hid (T.size ≠ S.size) := Lib.hid (by omega)
    have HTb : Hid (T.size ≤ 100000) := Lib.hid (by omega)
    have Hbad : Hid (rparse T.data.toList = rerr) := Lib.hid (by
      rw [show T.data.toList = 48 :: S.data.toList by rw [← hT, ByteArray.data_append, Array.toList_append]; rfl, HSl.out]
      exact rparse_nought Hkv.out)
    obtain ⟨u3, rfl⟩ : ∃ u3, u3 = u1 := ⟨_, rfl⟩
    clear hT hTs
    have hc := r_parse T u3 HTb.out (HG.out.fr F.out)
    have hc2 := fun W (hW : Fr no u3 W) => ref_parserec T W HTb.out
    obtain ⟨f, hf⟩ : ∃ f, (rparse T.data.toList).2 = f := ⟨_, rfl⟩
    rw [hf] at hc hc2
    have Hf := Lib.hid hf
    have Hc2 := Lib.hid hc2
    clear hf hc2
    go_wp2_with fail
    refine hc.mono ?_
    clear hc
    rintro e u4 ⟨b, rfl, hb, hfd⟩
    replace F := Lib.hid (F.out.trans' hfd)
    replace BX := Lib.hid (hfd.heap BX.out (fun f => f))
    clear hfd
    have HB := Lib.hid hb
    obtain ⟨s2, q2, v2, d2, k2, x2⟩ := b
    obtain ⟨o2, c2, hv2, _, _⟩ := Rd.cap hb.ok
    dsimp only at hv2
    subst hv2
    obtain ⟨b, hbb⟩ : ∃ r : Rc, (⟨s2, q2, .slice o2 d2.length c2, d2, k2, x2⟩ : Rc) = r := ⟨_, rfl⟩
    have eb : b.v = .agg #[.int .i64 s2, .int .i64 q2, .slice o2 d2.length c2, .string k2, .string x2] := by rw [← hbb]; rfl
    rw [hbb] at HB ⊢
    rw [eb]
    clear hb hbb
    generalize d2.length = n2 at *
    have Eb := Lib.hid eb
    clear eb
    go_upto_region 17 with (fail)
    obtain ⟨u5, hu5⟩ : ∃ U, u4.alloc (.cells #[.int .i64 s2, .int .i64 q2, .slice o2 n2 c2, .string k2, .string x2] 25) = U := ⟨_, rfl⟩
    obtain ⟨gy, hgy⟩ : ∃ g, u4.heap.size = g := ⟨_, rfl⟩
    have hby : u5.heap[gy]? = some (.cells #[.int .i64 s2, .int .i64 q2, .slice o2 n2 c2, .string k2, .string x2] 25 (0, 0)) := by rw [← hu5, ← hgy]; exact World.alloc_heap_new _ _
    have hfd : Fr no u4 u5 := by rw [← hu5]; exact (Fr.refl no u4).alloc _
    rw [hu5, hgy]
    replace HB := Lib.hid ({ HB.out with ok := HB.out.ok.fr hfd } : RcIs u5 b (rparse T.data.toList).1)
    replace F := Lib.hid (F.out.trans' hfd)
    replace BX := Lib.hid (hfd.heap BX.out (fun f => f))
    clear hfd
    have BY := Lib.hid hby
    clear hby hu5 hgy
    have hc := ref_parserec T u5 HTb.out
    rw [Hf.out] at hc
    clear Hc2
    go_wp2_with fail
    refine hc.mono ?_
    clear hc
    rintro e u6 ⟨c, rfl, hb, hfd⟩
    replace HB := Lib.hid ({ HB.out with ok := HB.out.ok.fr hfd } : RcIs u6 b (rparse T.data.toList).1)
    replace BY := Lib.hid (hfd.heap BY.out (fun f => f))
    replace F := Lib.hid (F.out.trans' hfd)
    replace BX := Lib.hid (hfd.heap BX.out (fun f => f))
    clear hfd
    have HC := Lib.hid hb
    obtain ⟨s3, q3, v3, d3, k3, x3⟩ := c
    obtain ⟨o3, c3, hv3, _, _⟩ := Rd.cap hb.ok
    dsimp only at hv3
    subst hv3
    obtain ⟨c, hcc⟩ : ∃ r : Rc, (⟨s3, q3, .slice o3 d3.length c3, d3, k3, x3⟩ : Rc) = r := ⟨_, rfl⟩
    have ec : c.v = .agg #[.int .i64 s3, .int .i64 q3, .slice o3 d3.length c3, .string k3, .string x3] := by rw [← hcc]; rfl
    rw [hcc] at HC ⊢
    rw [ec]
    clear hb hcc
    generalize d3.length = n3 at *
    have Ec := Lib.hid ec
    clear ec
    go_upto_region 18 with (fail)
    obtain ⟨u7, hu7⟩ : ∃ U, u6.alloc (.cells #[.int .i64 s3, .int .i64 q3, .slice o3 n3 c3, .string k3, .string x3] 29) = U := ⟨_, rfl⟩
    obtain ⟨gz, hgz⟩ : ∃ g, u6.heap.size = g := ⟨_, rfl⟩
    have hbz : u7.heap[gz]? = some (.cells #[.int .i64 s3, .int .i64 q3, .slice o3 n3 c3, .string k3, .string x3] 29 (0, 0)) := by rw [← hu7, ← hgz]; exact World.alloc_heap_new _ _
    have hfd : Fr no u6 u7 := by rw [← hu7]; exact (Fr.refl no u6).alloc _
    rw [hu7, hgz]
    replace HB := Lib.hid ({ HB.out with ok := HB.out.ok.fr hfd } : RcIs u7 b (rparse T.data.toList).1)
    replace HC := Lib.hid ({ HC.out with ok := HC.out.ok.fr hfd } : RcIs u7 c (rparse T.data.toList).1)
    replace BY := Lib.hid (hfd.heap BY.out (fun f => f))
    replace F := Lib.hid (F.out.trans' hfd)
    replace BX := Lib.hid (hfd.heap BX.out (fun f => f))
    clear hfd
    have BZ := Lib.hid hbz
    clear hbz hu7 hgz
    have yc0 : u7.cell? ⟨gy, 0, none⟩ = some (.int .i64 s2) := cell_of_block BY.out rfl
    have yc1 : u7.cell? ⟨gy, 1, none⟩ = some (.int .i64 q2) := cell_of_block BY.out rfl
    have yc2 : u7.cell? ⟨gy, 2, none⟩ = some (.slice o2 n2 c2) := cell_of_block BY.out rfl
    have yc3 : u7.cell? ⟨gy, 3, none⟩ = some (.string k2) := cell_of_block BY.out rfl
    have yc4 : u7.cell? ⟨gy, 4, none⟩ = some (.string x2) := cell_of_block BY.out rfl
    have zc0 : u7.cell? ⟨gz, 0, none⟩ = some (.int .i64 s3) := cell_of_block BZ.out rfl
    have zc1 : u7.cell? ⟨gz, 1, none⟩ = some (.int .i64 q3) := cell_of_block BZ.out rfl
    have zc2 : u7.cell? ⟨gz, 2, none⟩ = some (.slice o3 n3 c3) := cell_of_block BZ.out rfl
    have zc3 : u7.cell? ⟨gz, 3, none⟩ = some (.string k3) := cell_of_block BZ.out rfl
    have zc4 : u7.cell? ⟨gz, 4, none⟩ = some (.string x3) := cell_of_block BZ.out rfl
    have hof := fun W (hW : Fr no u7 W) => law_of b W (HB.out.ok.fr hW)
    have hsm := fun W (hW : Fr no u7 W) => ref_samerec b c W (HB.out.ok.fr hW) (HC.out.ok.fr hW)
    rw [Eb.out] at hof
    rw [same_is HB.out HC.out, Eb.out, Ec.out] at hsm
    have Hof := Lib.hid hof
    have Hsm := Lib.hid hsm
    have hne : (f != f) = false := by simp
    clear hof hsm
    have hf2 : (f != 2) = false := by rw [← Hf.out, Hbad.out]; rfl
    refine wp_held (fun w' => w'.cell? ⟨gy, 0, none⟩ = some (.int .i64 s2) ∧ w'.cell? ⟨gy, 1, none⟩ = some (.int .i64 q2) ∧ w'.cell? ⟨gy, 2, none⟩ = some (.slice o2 n2 c2) ∧ w'.cell? ⟨gy, 3, none⟩ = some (.string k2) ∧ w'.cell? ⟨gy, 4, none⟩ = some (.string x2) ∧ w'.cell? ⟨gz, 0, none⟩ = some (.int .i64 s3) ∧ w'.cell? ⟨gz, 1, none⟩ = some (.int .i64 q3) ∧ w'.cell? ⟨gz, 2, none⟩ = some (.slice o3 n3 c3) ∧ w'.cell? ⟨gz, 3, none⟩ = some (.string k3) ∧ w'.cell? ⟨gz, 4, none⟩ = some (.string x3)) (by kernel_rfl) ?_ (fun hHeld => ?_)
    · exact ⟨yc0, yc1, yc2, yc3, yc4, zc0, zc1, zc2, zc3, zc4⟩
    refine held_take (v := ?_) 0 rfl (by kernel_rfl) (.inl ⟨by rfl, ?_⟩) hHeld ?_
    rotate_left
    · intro w hSw; (try dsimp only at hSw); first | (go_simp; done) | (go_simp; with_reducible rfl)
    try simp only [Act.put, List.setIfInBounds_toArray, List.set_cons_zero, List.set_cons_succ]
    refine held_take (v := ?_) 1 rfl (by kernel_rfl) (.inl ⟨by rfl, ?_⟩) hHeld ?_
    rotate_left
    · intro w hSw; (try dsimp only at hSw); first | (go_simp; done) | (go_simp; with_reducible rfl)
    try simp only [Act.put, List.setIfInBounds_toArray, List.set_cons_zero, List.set_cons_succ]
    refine held_take (v := ?_) 2 rfl (by kernel_rfl) (.inl ⟨by rfl, ?_⟩) hHeld ?_
    rotate_left
    · intro w hSw; (try dsimp only at hSw); first | (go_simp; done) | (go_simp; with_reducible rfl)
    try simp only [Act.put, List.setIfInBounds_toArray, List.set_cons_zero, List.set_cons_succ]
    refine held_take (v := ?_) 3 rfl (by kernel_rfl) (.inl ⟨by rfl, ?_⟩) hHeld ?_
    rotate_left
    · intro w hSw; (try dsimp only at hSw); first | (go_simp; done) | (go_simp; with_reducible rfl)
    try simp only [Act.put, List.setIfInBounds_toArray, List.set_cons_zero, List.set_cons_succ]
    refine held_take (v := ?_) 4 rfl (by kernel_rfl) (.inl ⟨by rfl, ?_⟩) hHeld ?_
    rotate_left
    · intro w hSw; (try dsimp only at hSw); first | (go_simp; done) | (go_simp; with_reducible rfl)
    try simp only [Act.put, List.setIfInBounds_toArray, List.set_cons_zero, List.set_cons_succ]
    refine held_take (v := ?_) 6 rfl (by kernel_rfl) (.inl ⟨by rfl, ?_⟩) hHeld ?_
    rotate_left
    · intro w hSw; (try dsimp only at hSw); first | (go_simp; done) | (go_simp; with_reducible rfl)
    try simp only [Act.put, List.setIfInBounds_toArray, List.set_cons_zero, List.set_cons_succ]
    refine held_call 5 rfl (by kernel_rfl) (fun K hK => ?_)
    go_simp
    go_at_call 12; refine (Hof.out _ (Fr.drew (Fr.refl no u7))).mono ?_; rintro e wa ⟨rfl, hfd⟩; have HF := Lib.hid ((Fr.drew (Fr.refl no u7)).trans' hfd); clear hfd
    refine hK.out _ _ ?_ (fun hHeld' => ?_)
    · have hb1 := HF.out.heap BY.out (fun f => f); have hb2 := HF.out.heap BZ.out (fun f => f); exact ⟨cell_of_block hb1 rfl, cell_of_block hb1 rfl, cell_of_block hb1 rfl, cell_of_block hb1 rfl, cell_of_block hb1 rfl, cell_of_block hb2 rfl, cell_of_block hb2 rfl, cell_of_block hb2 rfl, cell_of_block hb2 rfl, cell_of_block hb2 rfl⟩
    clear hK K hHeld
    have hHeld := hHeld'
    clear hHeld'
    try simp only [Act.put, List.setIfInBounds_toArray, List.set_cons_zero, List.set_cons_succ]
    refine held_call 7 rfl (by kernel_rfl) (fun K hK => ?_)
    go_simp
    go_at_call 18; refine (Hsm.out _ HF.out).mono ?_; rintro e wa ⟨rfl, hfd⟩; replace HF := Lib.hid (HF.out.trans' hfd); clear hfd
    refine hK.out _ _ ?_ (fun hHeld' => ?_)
    · have hb1 := HF.out.heap BY.out (fun f => f); have hb2 := HF.out.heap BZ.out (fun f => f); exact ⟨cell_of_block hb1 rfl, cell_of_block hb1 rfl, cell_of_block hb1 rfl, cell_of_block hb1 rfl, cell_of_block hb1 rfl, cell_of_block hb2 rfl, cell_of_block hb2 rfl, cell_of_block hb2 rfl, cell_of_block hb2 rfl, cell_of_block hb2 rfl⟩
    clear hK K hHeld
    have hHeld := hHeld'
    clear hHeld'
    try simp only [Act.put, List.setIfInBounds_toArray, List.set_cons_zero, List.set_cons_succ]
    refine held_take (v := ?_) 8 rfl (by kernel_rfl) (.inl ⟨by rfl, ?_⟩) hHeld ?_
    rotate_left
    · intro w hSw; (try dsimp only at hSw); first | (go_simp; done) | (go_simp; with_reducible rfl)
    try simp only [Act.put, List.setIfInBounds_toArray, List.set_cons_zero, List.set_cons_succ]
    refine held_take (v := ?_) 9 rfl (by kernel_rfl) (.inl ⟨by rfl, ?_⟩) hHeld ?_
    rotate_left
    · intro w hSw; (try dsimp only at hSw); first | (go_simp; done) | (go_simp; with_reducible rfl)
    try simp only [Act.put, List.setIfInBounds_toArray, List.set_cons_zero, List.set_cons_succ]
    refine held_take (v := ?_) 10 rfl (by kernel_rfl) (.inl ⟨by rfl, ?_⟩) hHeld ?_
    rotate_left
    · intro w hSw; (try dsimp only at hSw); first | (go_simp; done) | (go_simp; with_reducible rfl)
    try simp only [Act.put, List.setIfInBounds_toArray, List.set_cons_zero, List.set_cons_succ]
    refine held_take (v := ?_) 11 rfl (by kernel_rfl) (.inl ⟨by rfl, ?_⟩) hHeld ?_
    rotate_left
    · intro w hSw; (try dsimp only at hSw); first | (go_simp; done) | (go_simp; with_reducible rfl)
    try simp only [Act.put, List.setIfInBounds_toArray, List.set_cons_zero, List.set_cons_succ]
    refine held_take (v := ?_) 12 rfl (by kernel_rfl) (.inl ⟨by rfl, ?_⟩) hHeld ?_
    rotate_left
    · intro w hSw; (try dsimp only at hSw); first | (go_simp; done) | (go_simp; with_reducible rfl)
    try simp only [Act.put, List.setIfInBounds_toArray, List.set_cons_zero, List.set_cons_succ]
    refine held_take (v := ?_) 13 rfl (by kernel_rfl) (.inl ⟨by rfl, ?_⟩) hHeld ?_
    rotate_left
    · intro w hSw; (try dsimp only at hSw); first | (go_simp; done) | (go_simp; with_reducible rfl)
    try simp only [Act.put, List.setIfInBounds_toArray, List.set_cons_zero, List.set_cons_succ]
    refine held_take (v := ?_) 14 rfl (by kernel_rfl) (.inl ⟨by rfl, ?_⟩) hHeld ?_
    rotate_left
    · intro w hSw; (try dsimp only at hSw); first | (go_simp; done) | (go_simp; with_reducible rfl)
    try simp only [Act.put, List.setIfInBounds_toArray, List.set_cons_zero, List.set_cons_succ]
    refine held_take (v := ?_) 15 rfl (by kernel_rfl) (.inl ⟨by rfl, ?_⟩) hHeld ?_
    rotate_left
    · intro w hSw; (try dsimp only at hSw); first | (go_simp; done) | (go_simp; with_reducible rfl)
    try simp only [Act.put, List.setIfInBounds_toArray, List.set_cons_zero, List.set_cons_succ]
    refine held_take (v := ?_) 16 rfl (by kernel_rfl) (.inl ⟨by rfl, ?_⟩) hHeld ?_
    rotate_left
    · intro w hSw; (try dsimp only at hSw); first | (go_simp; done) | (go_simp; with_reducible rfl)
    try simp only [Act.put, List.setIfInBounds_toArray, List.set_cons_zero, List.set_cons_succ]
    refine held_take (v := ?_) 17 rfl (by kernel_rfl) (.inl ⟨by rfl, ?_⟩) hHeld ?_
    rotate_left
    · intro w hSw; (try dsimp only at hSw); first | (go_simp; done) | (go_simp; with_reducible rfl)
    try simp only [Act.put, List.setIfInBounds_toArray, List.set_cons_zero, List.set_cons_succ]
    refine held_take (v := ?_) 18 rfl (by kernel_rfl) (.inl ⟨by rfl, ?_⟩) hHeld ?_
    rotate_left
    · intro w hSw; (try dsimp only at hSw); first | (go_simp; done) | (go_simp; with_reducible rfl)
    try simp only [Act.put, List.setIfInBounds_toArray, List.set_cons_zero, List.set_cons_succ]
    refine held_done (by kernel_rfl) ?_
    try clear hHeld
    have hfd := HF.out
    replace HB := Lib.hid ({ HB.out with ok := HB.out.ok.fr hfd } : RcIs wa b (rparse T.data.toList).1)
    replace BY := Lib.hid (hfd.heap BY.out (fun f => f))
    replace F := Lib.hid (F.out.trans' hfd)
    replace BX := Lib.hid (hfd.heap BX.out (fun f => f))
    clear hfd
    clear Hof Hsm HF HC BZ zc0 zc1 zc2 zc3 zc4 yc0 yc1 yc2 yc3 yc4
    generalize wa = u8 at *
    have hf0 : (f != 0) = true := by rw [← Hf.out, Hbad.out]; rfl
    go_wp2
    go_ret
    exact ⟨rfl, F.out⟩
  · rw [hq] at ht
    go_wp2_with fail
    go_quiet (fail)
    obtain ⟨u3, hu3⟩ : ∃ U, u1.drewN nq = U := ⟨_, rfl⟩
    have hfd : Fr no u1 u3 := by rw [← hu3]; exact (Fr.refl no u1).drewN nq
    rw [hu3]
    replace F := Lib.hid (F.out.trans' hfd)
    replace BX := Lib.hid (hfd.heap BX.out (fun f => f))
    clear hfd
    clear hu3
    go_upto_region 16 with (fail)
    obtain ⟨T, hT⟩ : ∃ T : ByteArray, S.extract 0 i ++ S.extract (i + 1) S.size = T := ⟨_, rfl⟩
    rw [hT]
    have hTs : T.size + 1 = S.size := by rw [← hT, ByteArray.size_append, ByteArray.size_extract, ByteArray.size_extract]; omega
    have HTs : Hid (T.size ≠ S.size) := Lib.hid (by omega)
    have HTb : Hid (T.size ≤ 100000) := Lib.hid (by omega)
    clear hT hTs
    have hc := r_parse T u3 HTb.out (HG.out.fr F.out)
    have hc2 := fun W (hW : Fr no u3 W) => ref_parserec T W HTb.out
    obtain ⟨f, hf⟩ : ∃ f, (rparse T.data.toList).2 = f := ⟨_, rfl⟩
    rw [hf] at hc hc2
    have Hf := Lib.hid hf
    have Hc2 := Lib.hid hc2
    clear hf hc2
    go_wp2_with fail
    refine hc.mono ?_
    clear hc
    rintro e u4 ⟨b, rfl, hb, hfd⟩
    replace F := Lib.hid (F.out.trans' hfd)
    replace BX := Lib.hid (hfd.heap BX.out (fun f => f))
    clear hfd
    have HB := Lib.hid hb
    obtain ⟨s2, q2, v2, d2, k2, x2⟩ := b
    obtain ⟨o2, c2, hv2, _, _⟩ := Rd.cap hb.ok
    dsimp only at hv2
    subst hv2
    obtain ⟨b, hbb⟩ : ∃ r : Rc, (⟨s2, q2, .slice o2 d2.length c2, d2, k2, x2⟩ : Rc) = r := ⟨_, rfl⟩
    have eb : b.v = .agg #[.int .i64 s2, .int .i64 q2, .slice o2 d2.length c2, .string k2, .string x2] := by rw [← hbb]; rfl
    rw [hbb] at HB ⊢
    rw [eb]
    clear hb hbb
    generalize d2.length = n2 at *
    have Eb := Lib.hid eb
    clear eb
    go_upto_region 17 with (fail)
    obtain ⟨u5, hu5⟩ : ∃ U, u4.alloc (.cells #[.int .i64 s2, .int .i64 q2, .slice o2 n2 c2, .string k2, .string x2] 25) = U := ⟨_, rfl⟩
    obtain ⟨gy, hgy⟩ : ∃ g, u4.heap.size = g := ⟨_, rfl⟩
    have hby : u5.heap[gy]? = some (.cells #[.int .i64 s2, .int .i64 q2, .slice o2 n2 c2, .string k2, .string x2] 25 (0, 0)) := by rw [← hu5, ← hgy]; exact World.alloc_heap_new _ _
    have hfd : Fr no u4 u5 := by rw [← hu5]; exact (Fr.refl no u4).alloc _
    rw [hu5, hgy]
    replace HB := Lib.hid ({ HB.out with ok := HB.out.ok.fr hfd } : RcIs u5 b (rparse T.data.toList).1)
    replace F := Lib.hid (F.out.trans' hfd)
    replace BX := Lib.hid (hfd.heap BX.out (fun f => f))
    clear hfd
    have BY := Lib.hid hby
    clear hby hu5 hgy
    have hc := ref_parserec T u5 HTb.out
    rw [Hf.out] at hc
    clear Hc2
    go_wp2_with fail
    refine hc.mono ?_
    clear hc
    rintro e u6 ⟨c, rfl, hb, hfd⟩
    replace HB := Lib.hid ({ HB.out with ok := HB.out.ok.fr hfd } : RcIs u6 b (rparse T.data.toList).1)
    replace BY := Lib.hid (hfd.heap BY.out (fun f => f))
    replace F := Lib.hid (F.out.trans' hfd)
    replace BX := Lib.hid (hfd.heap BX.out (fun f => f))
    clear hfd
    have HC := Lib.hid hb
    obtain ⟨s3, q3, v3, d3, k3, x3⟩ := c
    obtain ⟨o3, c3, hv3, _, _⟩ := Rd.cap hb.ok
    dsimp only at hv3
    subst hv3
    obtain ⟨c, hcc⟩ : ∃ r : Rc, (⟨s3, q3, .slice o3 d3.length c3, d3, k3, x3⟩ : Rc) = r := ⟨_, rfl⟩
    have ec : c.v = .agg #[.int .i64 s3, .int .i64 q3, .slice o3 d3.length c3, .string k3, .string x3] := by rw [← hcc]; rfl
    rw [hcc] at HC ⊢
    rw [ec]
    clear hb hcc
    generalize d3.length = n3 at *
    have Ec := Lib.hid ec
    clear ec
    go_upto_region 18 with (fail)
    obtain ⟨u7, hu7⟩ : ∃ U, u6.alloc (.cells #[.int .i64 s3, .int .i64 q3, .slice o3 n3 c3, .string k3, .string x3] 29) = U := ⟨_, rfl⟩
    obtain ⟨gz, hgz⟩ : ∃ g, u6.heap.size = g := ⟨_, rfl⟩
    have hbz : u7.heap[gz]? = some (.cells #[.int .i64 s3, .int .i64 q3, .slice o3 n3 c3, .string k3, .string x3] 29 (0, 0)) := by rw [← hu7, ← hgz]; exact World.alloc_heap_new _ _
    have hfd : Fr no u6 u7 := by rw [← hu7]; exact (Fr.refl no u6).alloc _
    rw [hu7, hgz]
    replace HB := Lib.hid ({ HB.out with ok := HB.out.ok.fr hfd } : RcIs u7 b (rparse T.data.toList).1)
    replace HC := Lib.hid ({ HC.out with ok := HC.out.ok.fr hfd } : RcIs u7 c (rparse T.data.toList).1)
    replace BY := Lib.hid (hfd.heap BY.out (fun f => f))
    replace F := Lib.hid (F.out.trans' hfd)
    replace BX := Lib.hid (hfd.heap BX.out (fun f => f))
    clear hfd
    have BZ := Lib.hid hbz
    clear hbz hu7 hgz
    have yc0 : u7.cell? ⟨gy, 0, none⟩ = some (.int .i64 s2) := cell_of_block BY.out rfl
    have yc1 : u7.cell? ⟨gy, 1, none⟩ = some (.int .i64 q2) := cell_of_block BY.out rfl
    have yc2 : u7.cell? ⟨gy, 2, none⟩ = some (.slice o2 n2 c2) := cell_of_block BY.out rfl
    have yc3 : u7.cell? ⟨gy, 3, none⟩ = some (.string k2) := cell_of_block BY.out rfl
    have yc4 : u7.cell? ⟨gy, 4, none⟩ = some (.string x2) := cell_of_block BY.out rfl
    have zc0 : u7.cell? ⟨gz, 0, none⟩ = some (.int .i64 s3) := cell_of_block BZ.out rfl
    have zc1 : u7.cell? ⟨gz, 1, none⟩ = some (.int .i64 q3) := cell_of_block BZ.out rfl
    have zc2 : u7.cell? ⟨gz, 2, none⟩ = some (.slice o3 n3 c3) := cell_of_block BZ.out rfl
    have zc3 : u7.cell? ⟨gz, 3, none⟩ = some (.string k3) := cell_of_block BZ.out rfl
    have zc4 : u7.cell? ⟨gz, 4, none⟩ = some (.string x3) := cell_of_block BZ.out rfl
    have hof := fun W (hW : Fr no u7 W) => law_of b W (HB.out.ok.fr hW)
    have hsm := fun W (hW : Fr no u7 W) => ref_samerec b c W (HB.out.ok.fr hW) (HC.out.ok.fr hW)
    rw [Eb.out] at hof
    rw [same_is HB.out HC.out, Eb.out, Ec.out] at hsm
    have Hof := Lib.hid hof
    have Hsm := Lib.hid hsm
    have hne : (f != f) = false := by simp
    clear hof hsm
    skip
    refine wp_held (fun w' => w'.cell? ⟨gy, 0, none⟩ = some (.int .i64 s2) ∧ w'.cell? ⟨gy, 1, none⟩ = some (.int .i64 q2) ∧ w'.cell? ⟨gy, 2, none⟩ = some (.slice o2 n2 c2) ∧ w'.cell? ⟨gy, 3, none⟩ = some (.string k2) ∧ w'.cell? ⟨gy, 4, none⟩ = some (.string x2) ∧ w'.cell? ⟨gz, 0, none⟩ = some (.int .i64 s3) ∧ w'.cell? ⟨gz, 1, none⟩ = some (.int .i64 q3) ∧ w'.cell? ⟨gz, 2, none⟩ = some (.slice o3 n3 c3) ∧ w'.cell? ⟨gz, 3, none⟩ = some (.string k3) ∧ w'.cell? ⟨gz, 4, none⟩ = some (.string x3)) (by kernel_rfl) ?_ (fun hHeld => ?_)
    · exact ⟨yc0, yc1, yc2, yc3, yc4, zc0, zc1, zc2, zc3, zc4⟩
    refine held_take (v := ?_) 0 rfl (by kernel_rfl) (.inl ⟨by rfl, ?_⟩) hHeld ?_
    rotate_left
    · intro w hSw; (try dsimp only at hSw); first | (go_simp; done) | (go_simp; with_reducible rfl)
    try simp only [Act.put, List.setIfInBounds_toArray, List.set_cons_zero, List.set_cons_succ]
    refine held_take (v := ?_) 1 rfl (by kernel_rfl) (.inl ⟨by rfl, ?_⟩) hHeld ?_
    rotate_left
    · intro w hSw; (try dsimp only at hSw); first | (go_simp; done) | (go_simp; with_reducible rfl)
    try simp only [Act.put, List.setIfInBounds_toArray, List.set_cons_zero, List.set_cons_succ]
    refine held_take (v := ?_) 2 rfl (by kernel_rfl) (.inl ⟨by rfl, ?_⟩) hHeld ?_
    rotate_left
    · intro w hSw; (try dsimp only at hSw); first | (go_simp; done) | (go_simp; with_reducible rfl)
    try simp only [Act.put, List.setIfInBounds_toArray, List.set_cons_zero, List.set_cons_succ]
    refine held_take (v := ?_) 3 rfl (by kernel_rfl) (.inl ⟨by rfl, ?_⟩) hHeld ?_
    rotate_left
    · intro w hSw; (try dsimp only at hSw); first | (go_simp; done) | (go_simp; with_reducible rfl)
    try simp only [Act.put, List.setIfInBounds_toArray, List.set_cons_zero, List.set_cons_succ]
    refine held_take (v := ?_) 4 rfl (by kernel_rfl) (.inl ⟨by rfl, ?_⟩) hHeld ?_
    rotate_left
    · intro w hSw; (try dsimp only at hSw); first | (go_simp; done) | (go_simp; with_reducible rfl)
    try simp only [Act.put, List.setIfInBounds_toArray, List.set_cons_zero, List.set_cons_succ]
    refine held_take (v := ?_) 6 rfl (by kernel_rfl) (.inl ⟨by rfl, ?_⟩) hHeld ?_
    rotate_left
    · intro w hSw; (try dsimp only at hSw); first | (go_simp; done) | (go_simp; with_reducible rfl)
    try simp only [Act.put, List.setIfInBounds_toArray, List.set_cons_zero, List.set_cons_succ]
    refine held_call 5 rfl (by kernel_rfl) (fun K hK => ?_)
    go_simp
    go_at_call 12; refine (Hof.out _ (Fr.drew (Fr.refl no u7))).mono ?_; rintro e wa ⟨rfl, hfd⟩; have HF := Lib.hid ((Fr.drew (Fr.refl no u7)).trans' hfd); clear hfd
    refine hK.out _ _ ?_ (fun hHeld' => ?_)
    · have hb1 := HF.out.heap BY.out (fun f => f); have hb2 := HF.out.heap BZ.out (fun f => f); exact ⟨cell_of_block hb1 rfl, cell_of_block hb1 rfl, cell_of_block hb1 rfl, cell_of_block hb1 rfl, cell_of_block hb1 rfl, cell_of_block hb2 rfl, cell_of_block hb2 rfl, cell_of_block hb2 rfl, cell_of_block hb2 rfl, cell_of_block hb2 rfl⟩
    clear hK K hHeld
    have hHeld := hHeld'
    clear hHeld'
    try simp only [Act.put, List.setIfInBounds_toArray, List.set_cons_zero, List.set_cons_succ]
    refine held_call 7 rfl (by kernel_rfl) (fun K hK => ?_)
    go_simp
    go_at_call 18; refine (Hsm.out _ HF.out).mono ?_; rintro e wa ⟨rfl, hfd⟩; replace HF := Lib.hid (HF.out.trans' hfd); clear hfd
    refine hK.out _ _ ?_ (fun hHeld' => ?_)
    · have hb1 := HF.out.heap BY.out (fun f => f); have hb2 := HF.out.heap BZ.out (fun f => f); exact ⟨cell_of_block hb1 rfl, cell_of_block hb1 rfl, cell_of_block hb1 rfl, cell_of_block hb1 rfl, cell_of_block hb1 rfl, cell_of_block hb2 rfl, cell_of_block hb2 rfl, cell_of_block hb2 rfl, cell_of_block hb2 rfl, cell_of_block hb2 rfl⟩
    clear hK K hHeld
    have hHeld := hHeld'
    clear hHeld'
    try simp only [Act.put, List.setIfInBounds_toArray, List.set_cons_zero, List.set_cons_succ]
    refine held_take (v := ?_) 8 rfl (by kernel_rfl) (.inl ⟨by rfl, ?_⟩) hHeld ?_
    rotate_left
    · intro w hSw; (try dsimp only at hSw); first | (go_simp; done) | (go_simp; with_reducible rfl)
    try simp only [Act.put, List.setIfInBounds_toArray, List.set_cons_zero, List.set_cons_succ]
    refine held_take (v := ?_) 9 rfl (by kernel_rfl) (.inl ⟨by rfl, ?_⟩) hHeld ?_
    rotate_left
    · intro w hSw; (try dsimp only at hSw); first | (go_simp; done) | (go_simp; with_reducible rfl)
    try simp only [Act.put, List.setIfInBounds_toArray, List.set_cons_zero, List.set_cons_succ]
    refine held_take (v := ?_) 10 rfl (by kernel_rfl) (.inl ⟨by rfl, ?_⟩) hHeld ?_
    rotate_left
    · intro w hSw; (try dsimp only at hSw); first | (go_simp; done) | (go_simp; with_reducible rfl)
    try simp only [Act.put, List.setIfInBounds_toArray, List.set_cons_zero, List.set_cons_succ]
    refine held_take (v := ?_) 11 rfl (by kernel_rfl) (.inl ⟨by rfl, ?_⟩) hHeld ?_
    rotate_left
    · intro w hSw; (try dsimp only at hSw); first | (go_simp; done) | (go_simp; with_reducible rfl)
    try simp only [Act.put, List.setIfInBounds_toArray, List.set_cons_zero, List.set_cons_succ]
    refine held_take (v := ?_) 12 rfl (by kernel_rfl) (.inl ⟨by rfl, ?_⟩) hHeld ?_
    rotate_left
    · intro w hSw; (try dsimp only at hSw); first | (go_simp; done) | (go_simp; with_reducible rfl)
    try simp only [Act.put, List.setIfInBounds_toArray, List.set_cons_zero, List.set_cons_succ]
    refine held_take (v := ?_) 13 rfl (by kernel_rfl) (.inl ⟨by rfl, ?_⟩) hHeld ?_
    rotate_left
    · intro w hSw; (try dsimp only at hSw); first | (go_simp; done) | (go_simp; with_reducible rfl)
    try simp only [Act.put, List.setIfInBounds_toArray, List.set_cons_zero, List.set_cons_succ]
    refine held_take (v := ?_) 14 rfl (by kernel_rfl) (.inl ⟨by rfl, ?_⟩) hHeld ?_
    rotate_left
    · intro w hSw; (try dsimp only at hSw); first | (go_simp; done) | (go_simp; with_reducible rfl)
    try simp only [Act.put, List.setIfInBounds_toArray, List.set_cons_zero, List.set_cons_succ]
    refine held_take 15 rfl (by kernel_rfl) (.inr ⟨by rfl, rfl⟩) hHeld ?_
    try simp only [Act.put, List.setIfInBounds_toArray, List.set_cons_zero, List.set_cons_succ]
    refine held_take 16 rfl (by kernel_rfl) (.inr ⟨by rfl, rfl⟩) hHeld ?_
    try simp only [Act.put, List.setIfInBounds_toArray, List.set_cons_zero, List.set_cons_succ]
    refine held_take (v := ?_) 17 rfl (by kernel_rfl) (.inl ⟨by rfl, ?_⟩) hHeld ?_
    rotate_left
    · intro w hSw; (try dsimp only at hSw); first | (go_simp; done) | (go_simp; with_reducible rfl)
    try simp only [Act.put, List.setIfInBounds_toArray, List.set_cons_zero, List.set_cons_succ]
    refine held_take (v := ?_) 18 rfl (by kernel_rfl) (.inl ⟨by rfl, ?_⟩) hHeld ?_
    rotate_left
    · intro w hSw; (try dsimp only at hSw); first | (go_simp; done) | (go_simp; with_reducible rfl)
    try simp only [Act.put, List.setIfInBounds_toArray, List.set_cons_zero, List.set_cons_succ]
    refine held_done (by kernel_rfl) ?_
    try clear hHeld
    have hfd := HF.out
    replace HB := Lib.hid ({ HB.out with ok := HB.out.ok.fr hfd } : RcIs wa b (rparse T.data.toList).1)
    replace BY := Lib.hid (hfd.heap BY.out (fun f => f))
    replace F := Lib.hid (F.out.trans' hfd)
    replace BX := Lib.hid (hfd.heap BX.out (fun f => f))
    clear hfd
    clear Hof Hsm HF HC BZ zc0 zc1 zc2 zc3 zc4 yc0 yc1 yc2 yc3 yc4
    generalize wa = u8 at *
    by_cases h0 : f = 0
    · subst h0
      have hz := is_small HB.out Hf.out
      have hc := r_text b u8 HB.out.ok hz.1 hz.2.1 hz.2.2.1 hz.2.2.2.1 hz.2.2.2.2.1 hz.2.2.2.2.2 (HG.out.fr F.out).1
      rw [text_back HB.out Hf.out, Eb.out] at hc
      have hsm := fun W (hW : Fr no u8 W) => r_same b a W (HB.out.ok.fr hW) HA.out
      rw [not_same HB.out Hf.out HS.out HTs.out, Eb.out, Ea.out] at hsm
      have Hc := Lib.hid hc
      have Hsm := Lib.hid hsm
      have hTT : (T.toList == T.toList) = true := by simp
      clear hz hc hsm
      have xc0 : u8.cell? ⟨gx, 0, none⟩ = some (.int .i64 s1) := cell_of_block BX.out rfl
      have xc1 : u8.cell? ⟨gx, 1, none⟩ = some (.int .i64 q1) := cell_of_block BX.out rfl
      have xc2 : u8.cell? ⟨gx, 2, none⟩ = some (.slice none 0 0) := cell_of_block BX.out rfl
      have xc3 : u8.cell? ⟨gx, 3, none⟩ = some (.string ⟨#[107]⟩) := cell_of_block BX.out rfl
      have xc4 : u8.cell? ⟨gx, 4, none⟩ = some (.string ⟨#[118]⟩) := cell_of_block BX.out rfl
      have yc0 : u8.cell? ⟨gy, 0, none⟩ = some (.int .i64 s2) := cell_of_block BY.out rfl
      have yc1 : u8.cell? ⟨gy, 1, none⟩ = some (.int .i64 q2) := cell_of_block BY.out rfl
      have yc2 : u8.cell? ⟨gy, 2, none⟩ = some (.slice o2 n2 c2) := cell_of_block BY.out rfl
      have yc3 : u8.cell? ⟨gy, 3, none⟩ = some (.string k2) := cell_of_block BY.out rfl
      have yc4 : u8.cell? ⟨gy, 4, none⟩ = some (.string x2) := cell_of_block BY.out rfl
      go_wp2_with fail
      refine Hc.out.mono ?_
      rintro e u9 ⟨rfl, hfd⟩
      have hfr := hfd
      replace BY := Lib.hid (hfd.heap BY.out (fun f => f))
      replace F := Lib.hid (F.out.trans' hfd)
      replace BX := Lib.hid (hfd.heap BX.out (fun f => f))
      clear hfd
      clear xc0 xc1 xc2 xc3 xc4 yc0 yc1 yc2 yc3 yc4
      have xc0 : u9.cell? ⟨gx, 0, none⟩ = some (.int .i64 s1) := cell_of_block BX.out rfl
      have xc1 : u9.cell? ⟨gx, 1, none⟩ = some (.int .i64 q1) := cell_of_block BX.out rfl
      have xc2 : u9.cell? ⟨gx, 2, none⟩ = some (.slice none 0 0) := cell_of_block BX.out rfl
      have xc3 : u9.cell? ⟨gx, 3, none⟩ = some (.string ⟨#[107]⟩) := cell_of_block BX.out rfl
      have xc4 : u9.cell? ⟨gx, 4, none⟩ = some (.string ⟨#[118]⟩) := cell_of_block BX.out rfl
      have yc0 : u9.cell? ⟨gy, 0, none⟩ = some (.int .i64 s2) := cell_of_block BY.out rfl
      have yc1 : u9.cell? ⟨gy, 1, none⟩ = some (.int .i64 q2) := cell_of_block BY.out rfl
      have yc2 : u9.cell? ⟨gy, 2, none⟩ = some (.slice o2 n2 c2) := cell_of_block BY.out rfl
      have yc3 : u9.cell? ⟨gy, 3, none⟩ = some (.string k2) := cell_of_block BY.out rfl
      have yc4 : u9.cell? ⟨gy, 4, none⟩ = some (.string x2) := cell_of_block BY.out rfl
      have hsm := Hsm.out u9 hfr
      clear hfr Hc Hsm
      go_wp2_with fail
      refine hsm.mono ?_
      rintro e u10 ⟨rfl, hfd⟩
      replace F := Lib.hid (F.out.trans' hfd)
      replace BX := Lib.hid (hfd.heap BX.out (fun f => f))
      clear hfd
      clear hsm xc0 xc1 xc2 xc3 xc4 yc0 yc1 yc2 yc3 yc4
      go_wp2
      go_ret
      exact ⟨rfl, F.out⟩
    · have hf0 : (f != 0) = true := by simpa using h0
      clear h0
      go_wp2
      go_ret
      exact ⟨rfl, F.out⟩
set_option maxRecDepth 100000 in
theorem recForms_row (a b c d : Int) (w : World) (hG : GlU w) (h1 : (Lit.int .u8 a).wf = true) (h2 : (Lit.int .u16 b).wf = true) (h3 : (Lit.int .u8 c).wf = true) (h4 : (Lit.int .u8 d).wf = true) :
    Calls Tryz.prog 9 #[.int .u8 a, .int .u16 b, .int .u8 c, .int .u8 d] w fun e w' => e = .returned (.bool true) ∧ Below w.heap.size w w' := by
  refine (recForms_any a b c d w hG (bounds_u8 h1) (bounds_u16 h2) (bounds_u8 h3) (bounds_u8 h4)).mono ?_
  rintro e w' ⟨he, hf⟩
  exact ⟨he, hf.below⟩
end Go.Proofs.YtgcjnhocoklfbaaGreatDoor
