/- The contract of batch's Clear. -/
import Derived.Test.YtnchmnkiokofhaaKnown
namespace Go.Proofs.Ytnchmnkiokofhaa
open Go.RowKit Go.Shelf Go.XL
set_option linter.unusedVariables false
set_option linter.unusedSimpArgs false
attribute [local go_sem] Oper.semAt_some

/-- how long the batch's slice is -/
def lenAt (b : Nat) (w : World) : Nat :=
  match w.cell? ⟨b, 2, none⟩ with
  | some (.slice _ n _) => n
  | _ => 0
theorem Bat.lenAt {w : World} {b : Nat} {size room : Int} {xs : List Int} {G : Option Nat} (h : Bat w b size room xs G) : lenAt b w = xs.length := by
  obtain ⟨v, hb, hs, hG, hne⟩ := h
  obtain ⟨ao, cap, rfl, _, _⟩ := hs.cap
  have hc : w.cell? ⟨b, 2, none⟩ = some (.slice ao xs.length cap) := cell_of_block hb rfl
  simp [Go.Proofs.Ytnchmnkiokofhaa.lenAt, hc]

/-- between two rounds of Clear's own loop -/
def ClI (w0 : World) (b : Nat) (size room : Int) (xs : List Int) (G : Option Nat) (a : Act) (w : World) : Prop :=
  ∃ (t1 t2 t3 t4 t5 t6 t7 t8 t9 t10 : Value) (rs : List Nat) (i : Nat), a = { tmps := #[.pointer (some ⟨b, 0, none⟩), t1, t2, t3, t4, t5, t6, t7, t8, t9, t10], defers := rs.map XL.mark } ∧
    Bat w b size room (xs.drop i) G ∧ Fr (fun k => k = b) w0 w ∧ (∀ r ∈ rs, w0.heap.size ≤ r ∧ w.heap[r]? = some (.deferred (some []))) ∧ rs.Nodup

set_option maxHeartbeats 1000000 in
theorem clear_any (b : Nat) (w : World) (size room : Int) (xs : List Int) (G : Option Nat) (h : Bat w b size room xs G) (hsz : 1 ≤ size) (hxs : xs.length ≤ 1000) :
    Calls Try.prog 10 #[.pointer (some ⟨b, 0, none⟩)] w fun e w' => e = .returned (.tuple #[]) ∧ Bat w' b size room [] G ∧ Fr (fun k => k = b) w w' := by
  refine calls_of_in (n := 4) free_wide (callsIn_of_wp_marks Try.func10 rfl trivial ?_ rfl)
  simp only [Try.ntmps10, List.size_toArray, List.length_cons, List.length_nil, Nat.reduceAdd, Nat.reduceSub, Array.replicate_succ, Array.replicate_zero, List.push_toArray, List.append_toArray, List.nil_append, List.cons_append]
  refine wpIn_block ?_
  refine wpIn_loop (ClI w b size room xs G) (fun _ w => lenAt b w) ⟨_, _, _, _, _, _, _, _, _, _, [], 0, rfl, h, Fr.refl _ _, by simp, by simp⟩ ?_
  rintro a wr ⟨t1, t2, t3, t4, t5, t6, t7, t8, t9, t10, rs, i, rfl, hB, hF, hrs, hnd⟩
  refine (wpIn_wide (n := 4)).2 ?_
  rw [hB.lenAt]
  obtain ⟨v, hb, hs, hG, hne⟩ := id hB
  obtain ⟨ao, cap, rfl, hcap, hmx⟩ := hs.cap
  have hc : wr.cell? ⟨b, 2, none⟩ = some (.slice ao (xs.drop i).length cap) := cell_of_block hb rfl
  have HB := Lib.hid hB
  have HF := Lib.hid hF
  have Hrs := Lib.hid hrs
  clear hb hs hG hne hB hF hrs h
  rw [List.length_drop] at hc hcap ⊢
  by_cases h0 : i < xs.length
  · have h0' : 0 < xs.length - i := by omega
    go_wp2_with (go_at_call 14; refine (take_any b _).mono ?_; rintro e w' ⟨rfl, rfl⟩)
    refine wp_name ?_
    intro w1 hw1
    have hf1 : Fr no wr w1 := by rw [hw1]; exact (Fr.refl no wr).alloc _
    have hc1 : w1.heap[wr.heap.size]? = some (.cells #[.pointer (some ⟨b, 0, none⟩)] 24 (0, 0)) := by rw [hw1]; exact World.alloc_heap_new _ _
    have hbl := HB.out.lt.1
    have hlt1 : wr.heap.size < w1.heap.size := (Array.getElem?_eq_some_iff.1 hc1).1
    clear hw1
    obtain ⟨m, hm⟩ : ∃ m : Nat, (m : Int) = min size ((xs.drop i).length : Int) := ⟨(min size ((xs.drop i).length : Int)).toNat, by omega⟩
    have hdl : (xs.drop i).length = xs.length - i := List.length_drop
    have hm1 : 1 ≤ m := by omega
    have hm2 : m ≤ xs.length - i := by omega
    refine (wpIn_wide (n := 3)).1 ?_
    refine wpIn_range (s0 := 0) rfl (by intro h; cases h) (gf := 16) (lb := #[.pointer (some ⟨wr.heap.size, 0, none⟩)]) rfl trivial (enters_of Try.func16 (by kernel_rfl) rfl)
      (take_iter wr.heap.size b size room (xs.drop i) G m hm (by omega) (by omega)) (fun _ => rfl) ?hst ?hdn
      (fun j W => W.heap[wr.heap.size]? = some (.cells #[.pointer (some ⟨b, 0, none⟩)] 24 (0, 0)) ∧ Bat W b size room ((xs.drop i).drop j) G ∧ Fr (fun k => k = b) w1 W) (fun _ _ => False)
      (fun x j a1 W => W.heap[wr.heap.size]? = some (.cells #[.pointer (some ⟨b, 0, none⟩)] 24 (0, 0)) ∧ Bat W b size room ((xs.drop i).drop j) G ∧ Fr (fun k => k = b) w1 W) ?hI ?hIx ?hIA ?hPre ⟨hc1, HB.out.fr hf1 (fun _ _ f => f), Fr.refl _ _⟩ ?assign ?body ?done ?stop
    case assign =>
      rintro l j W x j' W1 ⟨g1, g2, g3⟩ ⟨s1, rfl, s2, s3, s4⟩
      refine wpIn_skip ?_
      exact ⟨Kb.refl _, s4.heap g1 (by omega), s3, g3.trans' s4⟩
    case body =>
      rintro l x j a1 Wb hl ⟨g1, g2, g3⟩
      refine wpIn_block (wpIn_exit ?_)
      simp only [Exit.inBlock, if_true]
      exact ⟨Kb.refl _, g1, g2, g3⟩
    case hst =>
      rintro j W x j' W1 ⟨hc, hB, _⟩ ⟨_, _, _, _, hfr⟩
      exact hfr.kb (fun k _ e => by subst e; obtain ⟨v, hb, _⟩ := hB; exact ⟨_, hb, rfl⟩)
    case hdn =>
      rintro j W W' _ ⟨_, q, rfl⟩
      exact Kb.drewN _ _
    case hI => exact fun j W W' h hb => ⟨hb.heap h.1 rfl, h.2.1.bk hb, hb.fr h.2.2 (Nat.le_refl _)⟩
    case hIx => exact fun c W W' h hb => h
    case hIA => exact fun x j a1 W W' h hb => ⟨hb.heap h.1 rfl, h.2.1.bk hb, hb.fr h.2.2 (Nat.le_refl _)⟩
    case hPre => exact fun j W h => ⟨cell_of_block h.1 rfl, h.2.1, by omega⟩
    case stop => exact fun D c W _ h _ => h.elim
    case done =>
      rintro D j W2 W' hD ⟨g1, g2, g3⟩ ⟨rfl, q', rfl⟩ hDd W'' hb hDd' hkb
      have g2' := ((g2.bk (Bk.drewN w1.heap.size _ q')).bk hb)
      have g3' := hb.fr (g3.drewN q') (Nat.le_refl _)
      simp only [Exit.inBlock, Exit.then]
      refine ⟨⟨_, _, _, _, _, _, _, _, _, _, D :: rs, i + j, rfl, by rw [List.drop_drop] at g2'; exact g2', (HF.out.trans hf1 (fun k hk e => e.elim)).trans g3' (fun k hk e => e), ?_, ?_⟩, ?_⟩
      · intro r hr
        have hs1 := HF.out.size
        have hs2 := hf1.size
        simp only [List.mem_cons] at hr
        rcases hr with rfl | hr
        · exact ⟨by omega, hDd'⟩
        · obtain ⟨e1, e2⟩ := Hrs.out r hr
          have hrl : r < wr.heap.size := (Array.getElem?_eq_some_iff.1 e2).1
          exact ⟨e1, Fr.heap hb (hkb.same _ _ (hf1.heap e2 (fun f => f)) rfl) (fun g => by have := g.1; omega)⟩
      · refine List.nodup_cons.2 ⟨fun hr => ?_, hnd⟩
        have hs2 := hf1.size
        have hrl := (Array.getElem?_eq_some_iff.1 (Hrs.out D hr).2).1
        omega
      · rw [g2'.lenAt, List.length_drop, List.length_drop]; omega
  · have h0' : xs.length - i = 0 := by omega
    go_wp2
    refine leaveMn w.heap.size rs rfl Hrs.out hnd (fun W' hb => ⟨.tuple #[], results_none rfl _ _ _, rfl, ?_, hb.fr HF.out (Nat.le_refl _)⟩)
    have := HB.out.bk hb
    rwa [List.drop_eq_nil_of_le (by omega)] at this
end Go.Proofs.Ytnchmnkiokofhaa
