/- Package ring: all, its iterator. -/
import Derived.Test.YtlohbikkhojlaaaRg3
import Derived.Test.YtlohbikkhojlaaaEachF
import Derived.BigQuiet
import Derived.WalkMore
import Derived.Scope
namespace Go.XL
open Go.RowKit Go.Shelf
set_option linter.unusedVariables false
set_option linter.unusedSimpArgs false
theorem drop_flat {α : Type} {qs : List (List α)} {k : Nat} {l : List α} (h : qs[k]? = some l) : (qs.drop k).flatten = l ++ (qs.drop (k + 1)).flatten := by
  obtain ⟨hk, hx⟩ := List.getElem?_eq_some_iff.1 h
  rw [List.drop_eq_getElem_cons hk, hx, List.flatten_cons]
theorem drop_cons {α : Type} {l : List α} {j : Nat} {x : α} (h : l[j]? = some x) : l.drop j = x :: l.drop (j + 1) := by
  obtain ⟨hk, hx⟩ := List.getElem?_eq_some_iff.1 h
  rw [List.drop_eq_getElem_cons hk, hx]
theorem RgAt.qform {RT QT DT : TypeId} {w : World} {p : Nat} {r : Rg} {qv sv lv : Value} {vs : List Value} (h : RgAt RT QT DT w p r qv sv lv vs) : ∃ qo cq, qv = .slice qo r.qs.length cq ∧ r.qs.length ≤ cq ∧ cq ≤ 9223372036854775807 := h.qsl.cap
end Go.XL
namespace Go.Proofs.Ytlohbikkhojlaaa
open Go.RowKit Go.Shelf Go.XL
set_option linter.unusedVariables false
set_option linter.unusedSimpArgs false
attribute [local go_sem] Oper.semAt_some
abbrev encDr (d : Dr) : Array Value := #[d.v]
theorem ring_all (p : Nat) (k : Int) (w : World) : Calls Try.prog 31 #[.pointer (some ⟨p, 0, none⟩), .int .i64 k] w fun e w' => e = .returned (.func (.func 52) #[] #[.pointer (some ⟨w.heap.size, 0, none⟩), .pointer (some ⟨w.heap.size + 1, 0, none⟩)]) ∧
    (w.alloc (.cells #[.pointer (some ⟨p, 0, none⟩)] 24)).alloc (.cells #[.int .i64 k] 3) = w' := by
  go_enter Try.func31, Try.ntmps31
  go_wp2
  go_ret
  exact ⟨by simp [Nat.add_assoc], rfl⟩
set_option maxRecDepth 10000 in
set_option maxHeartbeats 4000000 in
theorem rgall_iter (c1 c2 p : Nat) (r : Rg) (qv sv lv : Value) (vs : List Value) (k0 : Nat) (hk0 : k0 ≤ r.qs.length) (hq8 : r.qs.length ≤ 8) (hl8 : ∀ l ∈ r.qs, l.length ≤ 1000) :
    EachF Fence.wide 2 Try.prog 52 #[.pointer (some ⟨c1, 0, none⟩), .pointer (some ⟨c2, 0, none⟩)] encDr (fun W => W.cell? ⟨c1, 0, none⟩ = some (.pointer (some ⟨p, 0, none⟩)) ∧ W.cell? ⟨c2, 0, none⟩ = some (.int .i64 (k0 : Int)) ∧ RgT W p r qv sv lv vs) (r.qs.drop k0).flatten := by
  intro l J Jx W hJ hPre hY
  obtain ⟨hc, hc2, hI⟩ := hPre _ W hJ
  obtain ⟨qo, cq, rfl, hqc, hqm⟩ := hI.qform
  obtain ⟨N, hN⟩ : ∃ N, r.qs.length = N := ⟨_, rfl⟩
  have b1 : W.cell? ⟨p, 1, none⟩ = some (.slice qo r.qs.length cq) := cell_of_block hI.cell rfl
  rw [hN] at hqc hk0 hq8 b1
  have HN := Lib.hid hN
  have HPre := Lib.hid hPre
  have HY := Lib.hid hY
  have HL8 := Lib.hid hl8
  obtain ⟨i0, hi, hz0, hz1, hz2⟩ := info_parts (show (Try.prog.info? 41).map (fun i => (i.zero, i.size, i.bytes)) = some (some (.slice none 0 0), 1, 24) by kernel_rfl)
  obtain ⟨ao1, hcut, hsl, hsl2⟩ := run_cutFrom (P := Try.prog) 78 41 i0 1 Try.underlying78 hi hz1 .i64 qo N cq k0 hk0 (k0 : Int) rfl
  have HCut := Lib.hid hcut
  clear hPre hY hI hl8 hcut hi hz0 hz1 hz2 hN
  refine callsIn_of_wp Try.func52 rfl trivial ?_ rfl
  simp only [Try.ntmps52, List.size_toArray, List.length_cons, List.length_nil, Nat.reduceAdd, Nat.reduceSub, Array.replicate_succ, Array.replicate_zero, List.push_toArray, List.append_toArray, List.nil_append, List.cons_append]
  gi_wp2
  refine wpIn_wide.2 (wp_scope_straight ((wpIn_wide (n := 2)).1 ?_))
  refine wpIn_seq (wpIn_label ?_)
  gi_wp2
  refine wpIn_region_q free_wide (by kernel_rfl) (by kernel_rfl) (by kernel_rfl) ?_
  repeat (go_big_quiet_step (fail))
  refine wpQuiet_nil ?_
  intro _ hw'
  obtain ⟨nq, hw''⟩ := hw'
  subst hw''
  have HW := Lib.hid (show Fr no W (W.drewN nq) from (Fr.refl no W).drewN nq)
  clear hc hc2 b1 hsl hsl2
  generalize W.drewN nq = W1 at *
  gi_wp2
  gi_loopw [15] (fun i wr => ∃ (k : Nat) (W0 : World), k ≤ N - k0 ∧ i = .int .i64 k ∧ J ((r.qs.drop (k0 + k)).flatten) W0 ∧ Hid (Fr no W0 wr)) (fun i _ => N - k0 - (intOf i).toNat)
  case atStart => exact ⟨0, W, Nat.zero_le _, rfl, hJ, HW⟩
  case round =>
    obtain ⟨k, W0, hk, rfl, hJk, hF⟩ := hrel
    by_cases hlt : k < N - k0
    · obtain ⟨p1, p2, hI⟩ := HPre.out _ W0 hJk
      obtain ⟨ql, hql⟩ : ∃ l, r.qs[k0 + k]? = some l := ⟨r.qs[k0 + k]'(by rw [HN.out]; omega), by simp⟩
      obtain ⟨v, hv⟩ : ∃ v, vs[k0 + k]? = some v := ⟨vs[k0 + k]'(by rw [hI.vlen, HN.out]; omega), by simp⟩
      obtain ⟨vo, vc, rfl, hvc, hvm⟩ := (hI.q (k0 + k) v ql hv hql).cap
      obtain ⟨m, hm⟩ : ∃ m, ql.length = m := ⟨_, rfl⟩
      have hm1 : m ≤ 1000 := by rw [← hm]; exact HL8.out ql (List.mem_of_getElem? hql)
      rw [hm] at hv hvc
      have hq := hI.qsl
      rw [HN.out] at hq
      have hqc2 := hq.cutFrom hk0
      rw [HCut.out] at hqc2
      obtain ⟨g, off, c', cs, he, _, _, hg, _, hx⟩ := hqc2.form (by omega)
      cases he
      have h0 := cell_of_block hg (hx k (.slice vo m vc) (by rw [Nat.mul_one, List.getElem?_drop]; exact hv))
      have h0 := hF.out.cell h0 (fun f => f)
      rw [drop_flat hql] at hJk
      have Hm := Lib.hid hm
      have Hv := Lib.hid hv
      have Hql := Lib.hid hql
      clear p1 p2 hI hg hx hq hqc2 hm hv hql hvc
      gi_wp2
      gi_loopw [21] (fun jv wr => ∃ (j : Nat) (W0 : World), j ≤ m ∧ jv = .int .i64 j ∧ J (ql.drop j ++ (r.qs.drop (k0 + k + 1)).flatten) W0 ∧ Hid (Fr no W0 wr)) (fun jv _ => m - (intOf jv).toNat)
      case atStart => exact ⟨0, W0, Nat.zero_le _, rfl, hJk, hF⟩
      clear hJk hF h0
      case round =>
        obtain ⟨j, W2, hj, rfl, hJj, hF⟩ := hrel
        by_cases hjm : j < m
        · obtain ⟨p1, p2, hI⟩ := HPre.out _ W2 hJj
          obtain ⟨d, hd⟩ : ∃ d, ql[j]? = some d := ⟨ql[j]'(by rw [Hm.out]; exact hjm), by simp⟩
          obtain ⟨dg, doff, dcap, he, d0, d1, d2, d3, d4, d5⟩ := drs_cells (by have := (hI.q (k0 + k) (.slice vo m vc) ql Hv.out Hql.out).rd; exact this) hd
          rw [Hm.out] at he
          cases he
          obtain ⟨dO, dc, hdv, _, _⟩ := (hI.dep d (.inr ⟨ql, List.mem_of_getElem? Hql.out, List.mem_of_getElem? hd⟩)).rd.cap
          rw [drop_cons hd, List.cons_append] at hJj
          have d0 := hF.out.cell d0 (fun f => f)
          have d1 := hF.out.cell d1 (fun f => f)
          have d2 := hF.out.cell d2 (fun f => f)
          have d3 := hF.out.cell d3 (fun f => f)
          have d4 := hF.out.cell d4 (fun f => f)
          have d5 := hF.out.cell d5 (fun f => f)
          generalize wr = V at *
          obtain ⟨dt, ds, dq, dv, dep, dk, dx⟩ := d
          dsimp only at d0 d1 d2 d3 d4 d5 hdv
          subst hdv
          obtain ⟨dn, hdn⟩ : ∃ n, dep.length = n := ⟨_, rfl⟩
          have hfa : Fr no W2 (V.alloc (.cells #[.int .i64 dt, .int .i64 ds, .int .i64 dq, .slice dO dn dc, .string dk, .string dx] 34)) := hF.out.alloc _
          obtain ⟨fn, tmps, assign, body, hy, hR⟩ := HY.out _ W2 _ _ _ hJj ⟨rfl, hfa⟩
          dsimp only [encDr, Dr.v] at hy
          rw [hdn] at hy d3
          clear hdn hfa hJj p1 p2 hI hd
          gi_wp2
          refine hR.mono ?_
          rintro e W3 (⟨rfl, hJ3⟩ | ⟨rfl, hJx3⟩)
          · have HJ3 := Lib.hid hJ3
            clear hJ3 hy hR d0 d1 d2 d3 d4 d5
            gi_wp2
            go_roundw
            case rel => exact ⟨j + 1, W3, by omega, by go_num, HJ3.out, Lib.hid (Fr.refl _ _)⟩
            case measure => simp [intOf]; omega
          · have HJ3 := Lib.hid hJx3
            clear hJx3 hy hR d0 d1 d2 d3 d4 d5
            gi_wp2
            simp only [Exit.noGoto]
            go_end0
            exact ⟨⟨_, rfl⟩, .inr HJ3.out⟩
        · obtain rfl : j = m := by omega
          rw [List.drop_eq_nil_of_le (by rw [Hm.out]; exact Nat.le_refl _), List.nil_append] at hJj
          have HJ3 := Lib.hid hJj
          clear hJj
          gi_wp2
          go_roundw
          case rel => exact ⟨k + 1, W2, by omega, by go_num, HJ3.out, hF⟩
          case measure => simp [intOf]; omega
    · obtain rfl : k = N - k0 := by omega
      gi_wp2
      simp only [Exit.noGoto]
      go_end0
      refine ⟨⟨_, rfl⟩, .inl ⟨_, W0, hJk, ?_, hF.out⟩⟩
      rw [show k0 + (N - k0) = N by omega, List.drop_eq_nil_of_le (by rw [HN.out]; exact Nat.le_refl _)]
      rfl
end Go.Proofs.Ytlohbikkhojlaaa
