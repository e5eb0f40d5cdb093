/- TokenSplit: the state of the loop that hands over one draft after the other. -/
import Derived.Test.YtdddgfienicaaaaTok3
import Derived.Test.YtdddgfienicaaaaTokSs
namespace Go.XL
open Go.RowKit Go.Shelf
set_option linter.unusedVariables false
set_option linter.unusedSimpArgs false
/-- a draft of another site, that can be read -/
def SpD (w : World) (own : Int) (d : Dr) : Prop := DrOk w d ∧ Oth own d ∧ 0 ≤ d.q ∧ d.q ≤ 1048576
/-- the numbers of the state -/
structure SpN (all : List Dr) (s : SS) (i : Nat) : Prop where
  sub : ∀ d ∈ s.late, d ∈ all
  sk : SeenOk s.seen
  sl : s.seen.length ≤ 1000
  ll : s.late.length ≤ 40 + i
  nx : 0 ≤ s.next ∧ s.next ≤ 1073741824 + 100 * i
  nn : s.n ≤ 100 * i
/-- the state in memory: the token lies in block gv -/
structure SpI (w wr : World) (T : TypeId) (gv : Nat) (own : Int) (s : SS) (sv lv : Value) : Prop where
  blk : wr.heap[gv]? = some (.cells #[.int .i64 own, .int .i64 s.next, sv, lv] T (0, 0))
  seen : RdX (fun g => g = gv) wr 1 sv s.seen.length (s.seen.map (Value.int .i64))
  late : RdX (fun g => g = gv) wr 6 lv s.late.length (drCells s.late)
  fr : Fr no w wr
/-- what Admit gives -/
structure SpA (w0 wc w' : World) (own : Int) (s : SS) (d : Dr) (sv lv ov sv0 : Value) : Prop where
  seen : IntsAt w' sv (sstep own s d).seen
  late : DrsAt w' lv (sstep own s d).late
  out : Rd w' 7 ov (srun own s d).out.length (slCells (srun own s d).out)
  svo : sv = sv0 ∨ ∀ g, sv.ownBlock = some g → wc.heap.size ≤ g
  lvo : ∀ g, lv.ownBlock = some g → wc.heap.size ≤ g
  fr : Fr no wc w'
theorem RdX.mk2 {X : Nat → Prop} {w : World} {size : Nat} {v : Value} {n : Nat} {xs : List Value} (h : Rd w size v n xs) (hs : 0 < size) (B : Nat) (hb : ∀ g, v.ownBlock = some g → B ≤ g) (hX : ∀ g, X g → g < B ∨ w.heap.size ≤ g) : RdX X w size v n xs := by
  refine RdX.grow (X := fun g => g < B) ⟨h, fun _ g hg e => by have := hb g hg; omega⟩ hs hX
theorem sp_apart {w0 wr wc w' : World} {T : TypeId} {gv gw : Nat} {own : Int} {s : SS} {d : Dr} {sv0 lv0 sv lv ov : Value} (hI : SpI w0 wr T gv own s sv0 lv0) (hf : Fr no wr wc) (hA : SpA w0 wc w' own s d sv lv ov sv0) (h1 : wr.heap.size ≤ gw) (h2 : gw < wc.heap.size ∨ w'.heap.size ≤ gw) :
    RdX (fun g => g = gv ∨ g = gw) w' 1 sv (sstep own s d).seen.length ((sstep own s d).seen.map (Value.int .i64)) ∧ RdX (fun g => g = gv ∨ g = gw) w' 6 lv (sstep own s d).late.length (drCells (sstep own s d).late) := by
  have hgv : gv < wr.heap.size := (Array.getElem?_eq_some_iff.1 hI.blk).1
  have hsz := hf.size
  have hX : ∀ g, g = gv ∨ g = gw → g < wc.heap.size ∨ w'.heap.size ≤ g := fun g e => by
    rcases e with rfl | rfl
    · exact .inl (by omega)
    · exact h2
  refine ⟨?_, RdX.mk2 hA.late (by decide) wc.heap.size hA.lvo hX⟩
  rcases hA.svo with e | e
  · subst e
    have hg := hI.seen.grow (X' := fun g => g = gv ∨ g = gw) (by decide) (fun g e => by
      rcases e with e | e
      · exact .inl e
      · exact .inr (by omega))
    refine ⟨hA.seen, fun h0 => ?_⟩
    obtain ⟨a1, c1, e1, _, _⟩ := hI.seen.rd.cap
    obtain ⟨a2, c2, e2, _, _⟩ := hA.seen.cap
    rw [e1] at e2
    injection e2 with _ en _
    exact hg.2 (by omega)
  · exact RdX.mk2 hA.seen (by decide) wc.heap.size e hX
theorem sp_next {w0 wr wx x : World} {T : TypeId} {gv gw : Nat} {own : Int} {s s' : SS} {sv0 lv0 sv lv : Value} (hI : SpI w0 wr T gv own s sv0 lv0) (hgv : w0.heap.size ≤ gv)
    (h1 : RdX (fun g => g = gv ∨ g = gw) wx 1 sv s'.seen.length (s'.seen.map (Value.int .i64))) (h2 : RdX (fun g => g = gv ∨ g = gw) wx 6 lv s'.late.length (drCells s'.late)) (hfx : Fr no wr wx)
    (hb : x.heap[gv]? = some (.cells #[.int .i64 own, .int .i64 s'.next, sv, lv] T (0, 0))) (hf : Fr (fun g => g = gv) wx x) : SpI w0 x T gv own s' sv lv :=
  ⟨hb, RdX.fr (X := fun g => g = gv) ⟨h1.1, fun h0 g hg e => h1.2 h0 g hg (.inl e)⟩ hf (fun g _ e => e), RdX.fr (X := fun g => g = gv) ⟨h2.1, fun h0 g hg e => h2.2 h0 g hg (.inl e)⟩ hf (fun g _ e => e),
    (hI.fr.trans' hfx).trans hf (fun i hi e => by omega)⟩
end Go.XL
namespace Go.Proofs.Ytdddgfienicaaaa
open Go.RowKit Go.Shelf Go.XL
set_option linter.unusedVariables false
set_option linter.unusedSimpArgs false
theorem sp_admit {w0 wr wc : World} {T : TypeId} {gv : Nat} {own : Int} {all : List Dr} {s : SS} {i : Nat} {sv lv v1 : Value} {d : Dr} (hI : SpI w0 wr T gv own s sv lv) (hN : SpN all s i) (hall : ∀ d ∈ all, SpD w0 own d) (hd : d ∈ all) (hi : i ≤ 40)
    (h1 : Rd wr 6 v1 1 (drCells [d])) (hf : Fr no wr wc) :
    Calls Try.prog 17 #[.agg #[.int .i64 own, .int .i64 s.next, sv, lv], v1] wc fun e w' => ∃ sv' lv' ov', e = .returned (.tuple #[.agg #[.int .i64 own, .int .i64 (sstep own s d).next, sv', lv'], ov']) ∧ SpA w0 wc w' own s d sv' lv' ov' sv ∧ SpN all (sstep own s d) (i + 1) ∧ (srun own s d).out.length ≤ 100 := by
  have hmem : ∀ x ∈ s.late ++ [d], x ∈ all := fun x hx => by
    rcases List.mem_append.1 hx with hx | hx
    · exact hN.sub x hx
    · simp at hx; subst hx; exact hd
  have hfw := hI.fr.trans' hf
  have hll := hN.ll
  have hnx := hN.nx
  refine (tAdmit own s.next sv lv v1 s.seen s.late [d] wc (hI.seen.rd.fr hf (fun _ _ _ f => f)) hN.sk (hI.late.rd.fr hf (fun _ _ _ f => f)) (h1.fr hf (fun _ _ _ f => f))
    (fun x hx => Rd.fr (hall x (hmem x hx)).1 hfw (fun _ _ _ f => f)) (fun x hx => (hall x (hmem x hx)).2.2) (by simp; omega) hN.sl hnx.1 (by omega)).mono ?_
  rintro e w' ⟨sv', lv', ov', rfl, hR⟩
  have er : ago own (s.late.length + [d].length) ⟨s.next, s.seen, s.late ++ [d], []⟩ = srun own s d := rfl
  rw [er] at hR ⊢
  have hcnt : (srun own s d).left.length + (srun own s d).out.length = s.late.length + 1 := hR.p.cnt
  have hal := alate_len (own := own) (seen := (srun own s d).seen) (srun own s d).left []
  have hlen : (sstep own s d).late.length ≤ s.late.length + 1 := by
    have e1 : (sstep own s d).late = alate own (srun own s d).seen (srun own s d).left [] := rfl
    rw [e1]
    simp at hal
    omega
  have hol : (srun own s d).out.length ≤ 100 := by omega
  have hnn : (sstep own s d).next = s.next + (srun own s d).out.length := hR.p.nx
  have hn2 : (sstep own s d).n = s.n + (srun own s d).out.length := rfl
  have hn3 := hN.nn
  refine ⟨sv', lv', ov', rfl, ⟨hR.seen, hR.late, hR.out, hR.svo, hR.tvo, hR.fr⟩, ⟨fun x hx => ?_, hR.p.sk, hR.p.sl, by omega, by rw [hnn]; push_cast; omega, by omega⟩, hol⟩
  have h3 := (run_facts (own := own) (s.late.length + 1) ⟨s.next, s.seen, s.late ++ [d], []⟩ (fun x hx => (hall x (hmem x hx)).2.1)).2.2.1
  rcases alate_mem _ _ x hx with h | h
  · exact hmem x (h3 x h)
  · simp at h
end Go.Proofs.Ytdddgfienicaaaa
