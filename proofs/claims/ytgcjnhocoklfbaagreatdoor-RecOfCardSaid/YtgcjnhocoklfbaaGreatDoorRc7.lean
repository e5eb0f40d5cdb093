/- Package rec: rows of records in memory; Of, its iterator. -/
import Derived.Test.YtgcjnhocoklfbaaGreatDoorRc0
import Derived.Test.YtgcjnhocoklfbaaGreatDoorEachF
import Derived.Test.YtgcjnhocoklfbaaGreatDoorOwn
import Derived.OwnWalkIn
namespace Go.XL
open Go.RowKit Go.Shelf
set_option linter.unusedVariables false
set_option linter.unusedSimpArgs false
def Rc.cs (r : Rc) : List Value := [.int .i64 r.s, .int .i64 r.q, r.dv, .string r.key, .string r.val]
def rcCells (l : List Rc) : List Value := l.flatMap Rc.cs
theorem rcCells_get (l : List Rc) (k : Nat) (x : Rc) (h : l[k]? = some x) : (rcCells l)[k * 5]? = some (.int .i64 x.s) ∧ (rcCells l)[k * 5 + 1]? = some (.int .i64 x.q) ∧ (rcCells l)[k * 5 + 2]? = some x.dv ∧
    (rcCells l)[k * 5 + 3]? = some (.string x.key) ∧ (rcCells l)[k * 5 + 4]? = some (.string x.val) := by
  induction l generalizing k with
  | nil => simp at h
  | cons y l ih =>
    cases k with
    | zero => simp at h; subst h; simp [rcCells, Rc.cs]
    | succ k =>
      have := ih k (by simpa using h)
      simpa [rcCells, Rc.cs, Nat.add_mul] using this
abbrev RcsAt (w : World) (v : Value) (l : List Rc) : Prop := Rd w 5 v l.length (rcCells l)
theorem rcs_cells {w : World} {v : Value} {l : List Rc} (h : RcsAt w v l) {k : Nat} {x : Rc} (hx : l[k]? = some x) : ∃ g off cap, v = .slice (some ⟨g, off, none⟩) l.length cap ∧
    w.cell? ⟨g, off + k * 5, none⟩ = some (.int .i64 x.s) ∧ w.cell? ⟨g, off + k * 5 + 1, none⟩ = some (.int .i64 x.q) ∧ w.cell? ⟨g, off + k * 5 + 2, none⟩ = some x.dv ∧
    w.cell? ⟨g, off + k * 5 + 3, none⟩ = some (.string x.key) ∧ w.cell? ⟨g, off + k * 5 + 4, none⟩ = some (.string x.val) := by
  have hlt := (List.getElem?_eq_some_iff.1 hx).1
  obtain ⟨g, off, cap, rfl, _, _, hc⟩ := Rd.form h (by omega)
  obtain ⟨h0, h1, h2, h3, h4⟩ := rcCells_get l k x hx
  refine ⟨g, off, cap, rfl, hc _ _ h0, ?_, ?_, ?_, ?_⟩
  · have := hc _ _ h1; rwa [← Nat.add_assoc] at this
  · have := hc _ _ h2; rwa [← Nat.add_assoc] at this
  · have := hc _ _ h3; rwa [← Nat.add_assoc] at this
  · have := hc _ _ h4; rwa [← Nat.add_assoc] at this
/-- those of a site, with their places -/
def rof (site : Int) : List Rc → Nat → List (Nat × Rc)
  | [], _ => []
  | r :: l, k => if r.s = site then (k, r) :: rof site l (k + 1) else rof site l (k + 1)
theorem rof_drop {site : Int} {l : List Rc} {k : Nat} {x : Rc} (h : l[k]? = some x) (j : Nat) : rof site (l.drop k) j = if x.s = site then (j, x) :: rof site (l.drop (k + 1)) (j + 1) else rof site (l.drop (k + 1)) (j + 1) := by
  obtain ⟨hk, hx⟩ := List.getElem?_eq_some_iff.1 h
  rw [List.drop_eq_getElem_cons hk, hx]; rfl
end Go.XL
namespace Go.Proofs.YtgcjnhocoklfbaaGreatDoor
open Go.RowKit Go.Shelf Go.XL
set_option linter.unusedVariables false
set_option linter.unusedSimpArgs false
attribute [local go_sem] Oper.semAt_some
abbrev encQ (x : Nat × Rc) : Array Value := #[.int .i64 x.1, x.2.v]
theorem r_of (ao : Option Addr) (n cap : Nat) (site : Int) (w : World) : Calls Tryz.prog 22 #[.slice ao n cap, .int .i64 site] w fun e w' => e = .returned (.func (.func 43) #[] #[.pointer (some ⟨w.heap.size, 0, none⟩), .pointer (some ⟨w.heap.size + 1, 0, none⟩)]) ∧
    (w.alloc (.cells #[.slice ao n cap] 41)).alloc (.cells #[.int .i64 site] 3) = w' := by
  go_enter Tryz.func22, Tryz.ntmps22
  go_wp2
  go_ret
  exact ⟨by simp [Nat.add_assoc], rfl⟩
theorem of_not_nil (x y : Addr) (w : World) : (binOp .eql 43 (.func (.func 43) #[] #[.pointer (some x), .pointer (some y)]) .nilFunc).run Tryz.prog w = .ok (.bool false) w := by kernel_rfl
set_option maxRecDepth 10000 in
set_option maxHeartbeats 2000000 in
theorem of_iter (c1 c2 : Nat) (v : Value) (ls : List Rc) (site : Int) (hl : ls.length ≤ 1000) :
    EachF Fence.wide 2 Tryz.prog 43 #[.pointer (some ⟨c1, 0, none⟩), .pointer (some ⟨c2, 0, none⟩)] encQ (fun W => W.cell? ⟨c1, 0, none⟩ = some v ∧ W.cell? ⟨c2, 0, none⟩ = some (.int .i64 site) ∧ RcsAt W v ls ∧ ∀ r ∈ ls, RcOk W r) (rof site ls 0) := by
  intro l J Jx W hJ hPre hY
  obtain ⟨hc, hc2, hI, _⟩ := hPre _ W hJ
  obtain ⟨ao, cap, rfl, hcap, hmx⟩ := hI.cap
  clear hI hc2
  obtain ⟨N, hN⟩ : ∃ N, ls.length = N := ⟨_, rfl⟩
  rw [hN] at hc hcap hl
  have HN := Lib.hid hN
  have HPre := Lib.hid hPre
  have HY := Lib.hid hY
  clear hPre hY
  refine callsIn_of_wp Tryz.func43 rfl trivial ?_ rfl
  simp only [Tryz.ntmps43, List.size_toArray, List.length_cons, List.length_nil, Nat.reduceAdd, Nat.reduceSub, Array.replicate_succ, Array.replicate_zero, List.push_toArray, List.append_toArray, List.nil_append, List.cons_append]
  gi_wp2
  clear hc hN
  gi_loopw [8] (fun i wr => ∃ (k : Nat) (W0 : World), k ≤ N ∧ i = .int .i64 k ∧ J (rof site (ls.drop k) k) W0 ∧ Hid (Fr no W0 wr)) (fun i _ => N - (intOf i).toNat)
  case atStart => exact ⟨0, W, Nat.zero_le _, rfl, hJ, Lib.hid (Fr.refl _ _)⟩
  case round =>
    obtain ⟨k, W0, hk, rfl, hJk, hF⟩ := hrel
    by_cases hlt : k < N
    · obtain ⟨p1, p2, hI, hall⟩ := HPre.out _ W0 hJk
      obtain ⟨x, hxk⟩ : ∃ x, ls[k]? = some x := ⟨ls[k]'(by rw [HN.out]; exact hlt), by simp⟩
      obtain ⟨g, off, c', he, h0, h1, h2, h3, h4⟩ := rcs_cells hI hxk
      rw [HN.out] at he
      cases he
      have hr := rof_drop (site := site) hxk k
      have h0 := hF.out.cell h0 (fun f => f)
      have h1 := hF.out.cell h1 (fun f => f)
      have h2 := hF.out.cell h2 (fun f => f)
      have h3 := hF.out.cell h3 (fun f => f)
      have h4 := hF.out.cell h4 (fun f => f)
      have p2 := hF.out.cell p2 (fun f => f)
      have hfa : Fr no W0 (wr.alloc (.cells #[.int .i64 x.s, .int .i64 x.q, x.dv, .string x.key, .string x.val] 25)) := hF.out.alloc _
      have HF2 := Lib.hid hfa
      have hok := hall x (List.mem_of_getElem? hxk)
      obtain ⟨xs, xq, xd, xdep, xk, xv⟩ := x
      obtain ⟨dO, dc, hdv, _, _⟩ := Rd.cap hok
      dsimp only at h0 h1 h2 h3 h4 hr HF2 hdv
      subst hdv
      have p3 : (wr.alloc (.cells #[.int .i64 xs, .int .i64 xq, .slice dO xdep.length dc, .string xk, .string xv] 25)).cell? ⟨c2, 0, none⟩ = some (.int .i64 site) := ((Fr.refl no wr).alloc _).cell p2 (fun f => f)
      clear hI hxk p1 hfa hF hJ hok hall
      by_cases hs : xs = site
      · subst hs
        rw [if_pos rfl] at hr
        rw [hr] at hJk
        obtain ⟨fn, tmps, assign, body, hy, hR⟩ := HY.out _ W0 _ _ _ hJk ⟨rfl, HF2.out⟩
        dsimp only [encQ, Rc.v] at hy
        clear hJk hr
        gi_wp2
        refine hR.mono ?_
        rintro e W3 (⟨rfl, hJ3⟩ | ⟨rfl, hJx3⟩)
        · have HJ3 := Lib.hid hJ3
          clear hJ3 hy hR h0 h1 h2 h3 h4 p2 p3
          gi_wp2
          go_roundw
          case rel => exact ⟨k + 1, W3, by omega, by go_num, HJ3.out, Lib.hid (Fr.refl _ _)⟩
          case measure => simp [intOf]; omega
        · have HJ3 := Lib.hid hJx3
          clear hJx3 hy hR h0 h1 h2 h3 h4 p2 p3
          gi_wp2
          refine bodyPost_ret (results_none rfl _ _ _) rfl ?_
          exact ⟨⟨_, rfl⟩, .inr HJ3.out⟩
      · rw [if_neg hs] at hr
        rw [hr] at hJk
        have HJ3 := Lib.hid hJk
        clear hJk hr
        gi_wp2
        refine ⟨fun _ h => (by cases h), ?_⟩
        gi_wp2
        go_roundw
        case rel => exact ⟨k + 1, W0, by omega, by go_num, HJ3.out, HF2⟩
        case measure => simp [intOf]; omega
    · obtain rfl : k = N := by omega
      gi_wp2
      go_end0
      refine ⟨⟨_, rfl⟩, .inl ⟨_, W0, hJk, ?_, hF.out⟩⟩
      rw [List.drop_eq_nil_of_le (by rw [HN.out]; exact Nat.le_refl _)]; rfl
end Go.Proofs.YtgcjnhocoklfbaaGreatDoor
