/- Contracts of the package vec: All, Check; and of the reference's vectors. -/
import Derived.Test.YtlohbikkhojlaaaVec
import Derived.Test.YtlohbikkhojlaaaIter
namespace Go.XL
open Go.RowKit Go.Shelf
set_option linter.unusedVariables false
set_option linter.unusedSimpArgs false
/-- from k on, each that is not 0, with its place -/
def vallF (xs : List Int) (k : Nat) : List (Nat × Int) := match xs with
  | [] => []
  | x :: r => if x = 0 then vallF r (k + 1) else (k, x) :: vallF r (k + 1)
theorem vallF_zero {xs : List Int} {k : Nat} {j : Nat} (h : xs[k]? = some 0) : vallF (xs.drop k) j = vallF (xs.drop (k + 1)) (j + 1) := by
  obtain ⟨hk, hx⟩ := List.getElem?_eq_some_iff.1 h
  rw [List.drop_eq_getElem_cons hk, hx]; simp [vallF]
theorem vallF_some {xs : List Int} {k : Nat} {j : Nat} {x : Int} (h : xs[k]? = some x) (hx0 : x ≠ 0) : vallF (xs.drop k) j = (j, x) :: vallF (xs.drop (k + 1)) (j + 1) := by
  obtain ⟨hk, hx⟩ := List.getElem?_eq_some_iff.1 h
  rw [List.drop_eq_getElem_cons hk, hx]; simp [vallF, hx0]
/-- what Check says of the numbers -/
def vbad (l : List Int) : Int := match l with
  | [] => 0
  | x :: r => if x < 0 then 1 else if 1048576 < x then 4 else vbad r
theorem vbad_all (xs : List Int) (k : Nat) : vbad ((vallF xs k).map Prod.snd) = vbad xs := by
  induction xs generalizing k with
  | nil => rfl
  | cons x r ih =>
    unfold vallF
    by_cases h : x = 0
    · rw [if_pos h, ih]; subst h; simp [vbad]
    · rw [if_neg h]; simp [vbad, ih]
def vcheck (xs : List Int) (sites : Int) : Int := if sites < 1 then 1 else if 8 < sites then 1 else if sites < xs.length then 4 else vbad xs
end Go.XL
namespace Go.Proofs.Ytlohbikkhojlaaa
open Go.RowKit Go.Shelf Go.XL
set_option linter.unusedVariables false
set_option linter.unusedSimpArgs false
attribute [local go_sem] Oper.semAt_some

theorem vec_all (ao : Option Addr) (n cap : Nat) (w : World) : Calls Try.prog 64 #[.slice ao n cap] w fun e w' => e = .returned (.func (.func 66) #[] #[.pointer (some ⟨w.heap.size, 0, none⟩)]) ∧ w.alloc (.cells #[.slice ao n cap] 30) = w' := by
  go_enter Try.func64, Try.ntmps64
  go_wp2
  go_ret
  exact ⟨rfl, rfl⟩

theorem all_iter (c : Nat) (v : Value) (xs : List Int) :
    EachC Fence.wide 2 Try.prog 66 #[.pointer (some ⟨c, 0, none⟩)] (fun x : Nat × Int => #[.int .i64 x.1, .int .i64 x.2]) (fun W => W.cell? ⟨c, 0, none⟩ = some v ∧ IntsAt W v xs) (vallF xs 0) := by
  intro l J Jx W hJ hPre hY
  obtain ⟨hc, hI⟩ := hPre _ W hJ
  obtain ⟨ao, cap, rfl, hcap, hmx⟩ := hI.cap
  clear hI
  obtain ⟨N, hN⟩ : ∃ N, xs.length = N := ⟨_, rfl⟩
  rw [hN] at hc hcap
  have HN := Lib.hid hN
  refine callsIn_of_wp Try.func66 rfl trivial ?_ rfl
  simp only [Try.ntmps66, List.size_toArray, List.length_cons, List.length_nil, Nat.reduceAdd, Nat.reduceSub, Array.replicate_succ, Array.replicate_zero, List.push_toArray, List.append_toArray, List.nil_append, List.cons_append]
  gi_wp2
  clear hc hN
  gi_loopw [7] (fun i wr => ∃ (k : Nat), k ≤ N ∧ i = .int .i64 k ∧ J (vallF (xs.drop k) k) wr) (fun i _ => N - (intOf i).toNat)
  case atStart => exact ⟨0, Nat.zero_le _, rfl, hJ⟩
  case round =>
    obtain ⟨k, hk, rfl, hJk⟩ := hrel
    by_cases hlt : k < N
    · obtain ⟨_, hI⟩ := hPre _ wr hJk
      have hxl : k < xs.length := by rw [HN.out]; exact hlt
      obtain ⟨g, off, c', he, _, _, hx⟩ := hI.form (by omega)
      cases he
      obtain ⟨x, hxk⟩ : ∃ x, xs[k]? = some x := ⟨xs[k], by simp [hxl]⟩
      have hcx : wr.cell? ⟨g, off + k, none⟩ = some (.int .i64 x) := hx k _ (by simp [hxk])
      have Hxk := Lib.hid hxk
      have HJk := Lib.hid hJk
      clear hx hxk hxl hI hJ hJk
      by_cases hx0 : x = 0
      · subst hx0
        gi_wp2
        refine ⟨fun _ h => (by cases h), ?_⟩
        gi_wp2
        go_roundw
        case rel => exact ⟨k + 1, by omega, by go_num, by rw [← vallF_zero Hxk.out]; exact HJk.out⟩
        case measure => simp [intOf]; omega
      · obtain ⟨fn, tmps, assign, body, hy, hR⟩ := hY _ wr _ _ _ HJk.out ⟨vallF_some Hxk.out hx0, rfl⟩
        gi_wp2
        refine hR.mono ?_
        rintro e W3 (⟨rfl, hJ3⟩ | ⟨rfl, hJx3⟩)
        · gi_wp2
          go_roundw
          case rel => exact ⟨k + 1, by omega, by go_num, hJ3⟩
          case measure => simp [intOf]; omega
        · gi_wp2
          refine bodyPost_ret (results_none rfl _ _ _) rfl ?_
          exact ⟨⟨_, rfl⟩, .inr hJx3⟩
    · obtain rfl : k = N := by omega
      gi_wp2
      go_end0
      refine ⟨⟨_, rfl⟩, .inl ⟨_, _, hJk, ?_, rfl⟩⟩
      rw [List.drop_eq_nil_of_le (by rw [HN.out]; exact Nat.le_refl _)]; rfl

theorem check_res (tmps : Array Value) (c1 : Nat) (w : World) (v1 : Value) (h1 : tmps[4]? = some (.pointer (some ⟨c1, 0, none⟩)))
    (g1 : w.cell? ⟨c1, 0, none⟩ = some v1) : (results Try.f53 tmps).run Try.prog w = .ok v1 w := by
  simp [results, Try.results53, go_sem, h1, g1]
theorem all_not_nil (x : Addr) (w : World) : (binOp .eql 118 (.func (.func 66) #[] #[.pointer (some x)]) .nilFunc).run Try.prog w = .ok (.bool false) w := by kernel_rfl

/-- what holds between two rounds of Check -/
def ChI (w : World) (v : Value) (r : Int) (s : List (Nat × Int)) (W : World) : Prop :=
  vbad (s.map Prod.snd) = r ∧ W.heap[w.heap.size]? = some (.cells #[.int .i64 0] 25 (0, 0)) ∧ W.heap[w.heap.size + 1]? = some (.cells #[v] 30 (0, 0)) ∧ Fr no w W
def ChX (w : World) (r : Int) (c : Code) (W : World) : Prop :=
  c = .ret ∧ W.heap[w.heap.size]? = some (.cells #[.int .i64 r] 25 (0, 0)) ∧ Fr no w W

set_option maxHeartbeats 1000000 in
theorem vec_check (v : Value) (xs : List Int) (sites : Int) (w : World) (h : IntsAt w v xs) :
    Calls Try.prog 53 #[v, .int .i64 sites] w fun e w' => e = .returned (.int .i64 (vcheck xs sites)) ∧ Fr no w w' := by
  obtain ⟨ao, cap, rfl, hcap, hmx⟩ := h.cap
  have H := Lib.hid h
  clear h
  refine calls_of_in (n := 4) free_wide (callsIn_of_wp_marks Try.func53 rfl trivial (wpIn_wide.2 ?_) rfl)
  simp only [Try.ntmps53, List.size_toArray, List.length_cons, List.length_nil, Nat.reduceAdd, Nat.reduceSub, Array.replicate_succ, Array.replicate_zero, List.push_toArray, List.append_toArray, List.nil_append, List.cons_append]
  have hsc : ∀ x : Int, (w.alloc (.cells #[.int .i64 x] 25)).cell? ⟨w.heap.size, 0, none⟩ = some (.int .i64 x) := fun x => cell_of_block (World.alloc_heap_new w (.cells #[.int .i64 x] 25)) rfl
  have hfr : ∀ x : Int, Fr no w (w.alloc (.cells #[.int .i64 x] 25)) := fun x => (Fr.refl no w).alloc _
  have Hsc := Lib.hid hsc
  have Hfr := Lib.hid hfr
  clear hsc hfr
  by_cases h1 : sites < 1
  · have e1 : vcheck xs sites = 1 := by unfold vcheck; rw [if_pos h1]
    rw [e1]
    go_wp2
    exact leave0 rfl (check_res _ w.heap.size _ (.int .i64 1) rfl (Hsc.out 1)) ⟨rfl, Hfr.out 1⟩
  · by_cases h2 : 8 < sites
    · have e1 : vcheck xs sites = 1 := by unfold vcheck; rw [if_neg h1, if_pos h2]
      rw [e1]
      go_wp2
      exact leave0 rfl (check_res _ w.heap.size _ (.int .i64 1) rfl (Hsc.out 1)) ⟨rfl, Hfr.out 1⟩
    · by_cases h3 : sites < xs.length
      · have e1 : vcheck xs sites = 4 := by unfold vcheck; rw [if_neg h1, if_neg h2, if_pos h3]
        rw [e1]
        go_wp2
        exact leave0 rfl (check_res _ w.heap.size _ (.int .i64 4) rfl (Hsc.out 4)) ⟨rfl, Hfr.out 4⟩
      · have e1 : vcheck xs sites = vbad ((vallF xs 0).map Prod.snd) := by unfold vcheck; rw [if_neg h1, if_neg h2, if_neg h3, vbad_all]
        rw [e1]
        clear e1 Hsc Hfr
        have hal := vec_all ao xs.length cap (w.alloc (.cells #[.int .i64 0] 25))
        generalize xs.length = n at *
        go_wp2_with fail
        refine hal.mono ?_
        rintro e w2 ⟨rfl, hw2⟩
        have hsz : (w.alloc (.cells #[.int .i64 0] 25)).heap.size = w.heap.size + 1 := by simp
        rw [hsz]
        clear hal hsz
        have hI0 : ChI w (.slice ao n cap) (vbad ((vallF xs 0).map Prod.snd)) (vallF xs 0) w2 := by
          refine ⟨rfl, ?_, ?_, ?_⟩ <;> rw [← hw2]
          · simp only [alloc_get, World.size_alloc, Nat.add_assoc]; simp
          · simp only [alloc_get, World.size_alloc, Nat.add_assoc]; simp
          · exact ((Fr.refl no w).alloc _).alloc _
        have hs2 : w.heap.size + 2 = w2.heap.size := by rw [← hw2]; simp
        have HI0 := Lib.hid hI0
        clear hw2 hI0
        go_wp2
        refine (wpIn_wide (n := 3)).1 ?_
        refine wpIn_each (ls := vallF xs 0) rfl (by intro h; cases h) (gf := 66) (lb := #[.pointer (some ⟨w.heap.size + 1, 0, none⟩)]) rfl trivial (enters_of Try.func66 (by kernel_rfl) rfl)
          (all_iter (w.heap.size + 1) (.slice ao n cap) xs) (fun _ => rfl) (ChI w (.slice ao n cap) (vbad ((vallF xs 0).map Prod.snd))) (ChX w (vbad ((vallF xs 0).map Prod.snd)))
          ?hI ?hIx ?hPre HI0.out ?round ?done ?stop
        case hI => exact fun s W W' h hb => ⟨h.1, hb.heap h.2.1 rfl, hb.heap h.2.2.1 rfl, hb.fr h.2.2.2 (by omega)⟩
        case hIx => exact fun s W W' h hb => ⟨h.1, hb.heap h.2.1 rfl, hb.fr h.2.2 (by omega)⟩
        case hPre => exact fun s W h => ⟨cell_of_block h.2.2.1 rfl, H.out.fr h.2.2.2 (fun _ _ _ f => f)⟩
        case round =>
          rintro l W x s h
          gi_wp2
          refine ⟨Kb.refl _, fun l W' hb hl => ?_⟩
          have h' : ChI w (.slice ao n cap) (vbad ((vallF xs 0).map Prod.snd)) (x :: s) W' := ⟨h.1, hb.heap h.2.1 rfl, hb.heap h.2.2.1 rfl, hb.fr h.2.2.2 (by omega)⟩
          obtain ⟨g1, g2, g3, g4⟩ := h'
          clear hb h
          have c2 : W'.cell? ⟨w.heap.size, 0, none⟩ = some (.int .i64 0) := cell_of_block g2 rfl
          have f2 : W'.frozen? ⟨w.heap.size, 0, none⟩ = false := frozen_of_block g2
          have G1 := Lib.hid g1
          have G2 := Lib.hid g2
          have G3 := Lib.hid g3
          have G4 := Lib.hid g4
          clear g1 g2 g3 g4
          by_cases hx1 : x.2 < 0
          · gi_wp2
            refine ⟨Kb.setCell _ _ _, rfl, ?_, G4.out.setCell (p := ⟨w.heap.size, 0, none⟩) (fun h => by simp at h) _⟩
            have e : vbad ((x :: s).map Prod.snd) = 1 := by simp [vbad, hx1]
            rw [← G1.out, e]
            exact heap_setC _ G2.out
          · by_cases hx2 : 1048576 < x.2
            · gi_wp2
              refine ⟨Kb.setCell _ _ _, rfl, ?_, G4.out.setCell (p := ⟨w.heap.size, 0, none⟩) (fun h => by simp at h) _⟩
              have e : vbad ((x :: s).map Prod.snd) = 4 := by simp [vbad, hx1, hx2]
              rw [← G1.out, e]
              exact heap_setC _ G2.out
            · gi_wp2
              refine ⟨Kb.refl _, ?_, G2.out, G3.out, G4.out⟩
              have e : vbad ((x :: s).map Prod.snd) = vbad (s.map Prod.snd) := by simp only [vbad, List.map_cons]; rw [if_neg (by omega), if_neg (by omega)]
              rw [← G1.out, e]
        case done =>
          rintro D W hD h hd
          obtain ⟨g1, g2, g3, g4⟩ := h
          have c2 : W.cell? ⟨w.heap.size, 0, none⟩ = some (.int .i64 0) := cell_of_block g2 rfl
          have f2 : W.frozen? ⟨w.heap.size, 0, none⟩ = false := frozen_of_block g2
          have G1 := Lib.hid g1
          have G2 := Lib.hid g2
          have G4 := Lib.hid g4
          have Hd := Lib.hid hd
          clear g1 g2 g3 g4 hd
          go_wp2
          refine leaveOne D rfl ((Below.heap_setCell _ _ _ _ (by simp; omega)).trans Hd.out) (fun Wf hbf => ?_)
          have s1 := hbf.heap (heap_setC (j := 0) (.int .i64 0) G2.out) rfl
          refine ⟨_, check_res _ w.heap.size _ _ rfl (cell_of_block s1 rfl), ?_, hbf.fr (G4.out.setCell (p := ⟨w.heap.size, 0, none⟩) (fun h => by simp at h) _) (by omega)⟩
          rw [← G1.out]; rfl
        case stop =>
          rintro D c W hD ⟨rfl, g2, g4⟩ hd
          refine wpIn_ret ?_
          refine leaveOne D rfl hd (fun Wf hbf => ?_)
          exact ⟨_, check_res _ w.heap.size _ _ rfl (cell_of_block (hbf.heap g2 rfl) rfl), rfl, hbf.fr g4 (by omega)⟩
end Go.Proofs.Ytlohbikkhojlaaa
