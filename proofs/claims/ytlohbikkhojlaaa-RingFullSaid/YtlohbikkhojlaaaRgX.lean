/- A ring of a law's own: its calls, with the values of its memory behind a name. -/
import Derived.Test.YtlohbikkhojlaaaRg9
namespace Go.XL
open Go.RowKit Go.Shelf
set_option linter.unusedVariables false
set_option linter.unusedSimpArgs false
/-- a row that is kept: cells an element, elements, the slice, its cells -/
structure KRow where
  size : Nat
  n : Nat
  v : Value
  cs : List Value
end Go.XL
namespace Go.Proofs.Ytlohbikkhojlaaa
open Go.RowKit Go.Shelf Go.XL
set_option linter.unusedVariables false
set_option linter.unusedSimpArgs false
attribute [local go_sem] Oper.semAt_some
/-- a ring made since w; Z: blocks of the law's own that the ring leans not on; ks: rows that are kept -/
def RgX (w W : World) (p : Nat) (r : Rg) (Z : Nat → Prop) (ks : List KRow) : Prop :=
  ∃ (qv sv lv : Value) (vs : List Value), RgT W p r qv sv lv vs ∧ Fr no w W ∧ (∀ g, RgOwn p qv vs g → w.heap.size ≤ g ∧ ¬ Z g) ∧ (∀ g, Z g → g < W.heap.size) ∧
    RdX Z W 1 sv r.seen.length (r.seen.map (Value.int .i64)) ∧ RdX Z W 6 lv r.late.length (drCells r.late) ∧ (∀ d : Dr, (d ∈ r.late ∨ ∃ l ∈ r.qs, d ∈ l) → RdX Z W 1 d.dv d.dep.length (d.dep.map (Value.int .i64))) ∧
    ∀ k ∈ ks, 0 < k.size ∧ RdX (RgOwn p qv vs) W k.size k.v k.n k.cs
theorem rput_seen (r : Rg) (q : Int) (d : Dr) : (rput r q d).1.seen = r.seen ∧ (rput r q d).1.late = r.late := by
  unfold rput
  split
  · exact ⟨rfl, rfl⟩
  · split <;> exact ⟨rfl, rfl⟩
theorem rput_mem (r : Rg) (q : Int) (d x : Dr) (h : x ∈ (rput r q d).1.late ∨ ∃ l ∈ (rput r q d).1.qs, x ∈ l) : (x ∈ r.late ∨ ∃ l ∈ r.qs, x ∈ l) ∨ x = d := by
  unfold rput at h
  split at h
  · exact .inl h
  · split at h
    · exact .inl h
    · rename_i h1 h2
      rcases h with h | ⟨l, hl, h⟩
      · exact .inl (.inl h)
      · rcases List.mem_or_eq_of_mem_set hl with hl | rfl
        · exact .inl (.inr ⟨l, hl, h⟩)
        · rcases List.mem_append.1 h with h | h
          · have hq : q.toNat < r.qs.length := by omega
            rw [List.getElem?_eq_getElem hq] at h
            exact .inl (.inr ⟨r.qs[q.toNat], by simp, h⟩)
          · simp at h; exact .inr h
theorem rresize_mem (r : Rg) (N : Nat) (x : Dr) (h1 : 1 ≤ r.qs.length) (h : x ∈ (rresize r N).late ∨ ∃ l ∈ (rresize r N).qs, x ∈ l) : x ∈ r.late ∨ ∃ l ∈ r.qs, x ∈ l := by
  rcases h with h | ⟨l, hl, h⟩
  · exact .inl h
  · unfold rresize at hl
    dsimp only at hl
    split at hl
    · rcases List.mem_or_eq_of_mem_set hl with hl | rfl
      · exact .inr ⟨l, List.mem_of_mem_take hl, h⟩
      · rcases List.mem_append.1 h with h | h
        · have : (0 : Nat) < r.qs.length := h1
          rw [List.getElem?_eq_getElem this] at h
          exact .inr ⟨r.qs[0], by simp, h⟩
        · obtain ⟨l', hl', hx⟩ := List.mem_flatten.1 h
          exact .inr ⟨l', List.mem_of_mem_drop hl', hx⟩
    · rcases List.mem_append.1 hl with hl | hl
      · exact .inr ⟨l, hl, h⟩
      · have := List.eq_of_mem_replicate hl
        subst this
        cases h
theorem kept {own own' : Nat → Prop} {W W' : World} {ks : List KRow} (h : ∀ k ∈ ks, 0 < k.size ∧ RdX own W k.size k.v k.n k.cs) (hF : Fr own W W') (hO : ∀ g, own' g → own g ∨ W.heap.size ≤ g) : ∀ k ∈ ks, 0 < k.size ∧ RdX own' W' k.size k.v k.n k.cs := fun k hk =>
  ⟨(h k hk).1, RdX.anti (X := fun g => own g ∨ W.heap.size ≤ g) (((h k hk).2.new (h k hk).1).fr hF (fun _ _ e => .inl e)) hO⟩
variable {w W W' Wb : World} {p : Nat} {r : Rg} {Z : Nat → Prop} {ks : List KRow}
theorem RgX.fr (h : RgX w W p r Z ks) : Fr no w W := by obtain ⟨_, _, _, _, _, h, _⟩ := h; exact h
theorem RgX.fr0 (h : RgX w W p r Z ks) (hf : Fr no W W') : RgX w W' p r Z ks := by
  obtain ⟨qv, sv, lv, vs, h1, h2, h3, h4, h5, h6, h7, h8⟩ := h
  exact ⟨qv, sv, lv, vs, h1.fr0 hf, h2.trans' hf, h3, fun g hg => Nat.lt_of_lt_of_le (h4 g hg) hf.size, h5.fr hf (fun _ _ f => f.elim), h6.fr hf (fun _ _ f => f.elim), fun d hd => (h7 d hd).fr hf (fun _ _ f => f.elim), fun k hk => ⟨(h8 k hk).1, (h8 k hk).2.fr hf (fun _ _ f => f.elim)⟩⟩
theorem RgX.row (h : RgX w W p r Z ks) {k : KRow} (hk : k ∈ ks) : Rd W k.size k.v k.n k.cs := by
  obtain ⟨qv, sv, lv, vs, h1, h2, h3, h4, h5, h6, h7, h8⟩ := h
  exact (h8 k hk).2.rd
theorem RgX.keep (h : RgX w W p r Z ks) {ks' : List KRow} (hk : ∀ k ∈ ks', k ∈ ks) : RgX w W p r Z ks' := by
  obtain ⟨qv, sv, lv, vs, h1, h2, h3, h4, h5, h6, h7, h8⟩ := h
  exact ⟨qv, sv, lv, vs, h1, h2, h3, h4, h5, h6, h7, fun k hk' => h8 k (hk k hk')⟩
/-- a write into a block of the law's own -/
theorem RgX.write (h : RgX w W p r Z ks) (hf : Fr Z W W') (hw : ∀ g, Z g → w.heap.size ≤ g) (hk : ks = []) : RgX w W' p r Z ks := by
  obtain ⟨qv, sv, lv, vs, h1, h2, h3, h4, h5, h6, h7, h8⟩ := h
  subst hk
  have hno : ∀ g, RgOwn p qv vs g → ¬ Z g := fun g hg => (h3 g hg).2
  have both : ∀ {size : Nat} {u : Value} {n : Nat} {xs : List Value}, RdX (RgOwn p qv vs) W size u n xs → RdX Z W size u n xs → RdX (RgOwn p qv vs) W' size u n xs := fun a b => ⟨(b.fr hf (fun _ _ e => e)).rd, a.2⟩
  refine ⟨qv, sv, lv, vs, ⟨hf.heap h1.cell (hno p (.inl rfl)), h1.qsl.fr hf (fun g hg => hno g (.inr (.inl hg))), fun i v l hv hl => (h1.q i v l hv hl).fr hf (fun g hg => hno g (.inr (.inr ⟨v, List.mem_of_getElem? hv, hg⟩))), h1.ap1, h1.ap2, h1.ap3, both h1.seen h5, both h1.late h6, fun d hd => both (h1.dep d hd) (h7 d hd)⟩, h2.trans hf (fun i hi e => by have := hw i e; omega), h3, fun g hg => Nat.lt_of_lt_of_le (h4 g hg) hf.size, h5.fr hf (fun _ _ e => e), h6.fr hf (fun _ _ e => e), fun d hd => (h7 d hd).fr hf (fun _ _ e => e), fun k hk => by cases hk⟩
/-- the law takes a block of its own -/
theorem RgX.zone (h : RgX w W p r (fun _ => False) []) {Z' : Nat → Prop} (hz : ∀ g, Z' g → W.heap.size ≤ g) (hf : Fr no W W') (hl : ∀ g, Z' g → g < W'.heap.size) : RgX w W' p r Z' [] := by
  obtain ⟨qv, sv, lv, vs, h1, h2, h3, h4, h5, h6, h7, h8⟩ := h
  have grow : ∀ {size : Nat} {u : Value} {n : Nat} {xs : List Value}, 0 < size → RdX (fun _ => False) W size u n xs → RdX Z' W' size u n xs := fun hs a => (a.grow hs (fun g hg => .inr (hz g hg))).fr hf (fun _ _ f => f.elim)
  exact ⟨qv, sv, lv, vs, h1.fr0 hf, h2.trans' hf, fun g hg => ⟨(h3 g hg).1, fun e => by have := hz g e; have := h1.lt g hg; omega⟩, hl, grow (by decide) h5, grow (by decide) h6, fun d hd => grow (by decide) (h7 d hd), fun k hk => by cases hk⟩
theorem x_new (own : Int) (N : Nat) (room : Int) (w W : World) (hf : Fr no w W) (h1 : 0 ≤ own ∧ own < 8) (h2 : 1 ≤ N ∧ N ≤ 8) (h3 : 1 ≤ room ∧ room ≤ 64) :
    Calls Try.prog 8 #[.int .i64 own, .int .i64 (N : Int), .int .i64 room] W fun e W' => ∃ p, e = .returned (.tuple #[.pointer (some ⟨p, 0, none⟩), .int .i64 0]) ∧ RgX w W' p ⟨room, List.replicate N [], 0, own, 0, [], []⟩ (fun _ => False) [] := by
  refine (ring_new own N room W h1 h2 h3).mono ?_
  rintro e W' ⟨p, qv, rfl, hT, hF, hO⟩
  exact ⟨p, rfl, qv, _, _, _, hT, hf.trans' hF, fun g hg => ⟨Nat.le_trans hf.size (hO g hg), fun f => f⟩, fun g f => f.elim, hT.seen.anti (fun _ f => f.elim), hT.late.anti (fun _ f => f.elim), fun d hd => (hT.dep d hd).anti (fun _ f => f.elim), fun k hk => by cases hk⟩
theorem x_at (h : RgX w W p r Z ks) : Calls Try.prog 11 #[.pointer (some ⟨p, 0, none⟩)] W fun e W' => e = .returned (.int .i64 (r.at_ : Int)) ∧ W = W' := by
  obtain ⟨qv, sv, lv, vs, h1, _⟩ := h
  exact ring_at p r qv sv lv vs W h1
theorem x_len (h : RgX w W p r Z ks) (hq8 : r.qs.length ≤ 8) (hl8 : ∀ l ∈ r.qs, l.length ≤ 1000) (hll : rlen r ≤ 100000) : Calls Try.prog 13 #[.pointer (some ⟨p, 0, none⟩)] W fun e W' => e = .returned (.int .i64 ((rlen r : Nat) : Int)) ∧ RgX w W' p r Z ks ∧ Fr no W W' := by
  obtain ⟨qv, sv, lv, vs, h1, _⟩ := id h
  refine (ring_len p r qv sv lv vs W h1 hq8 hl8 hll).mono ?_
  rintro e W' ⟨rfl, hf⟩
  exact ⟨rfl, h.fr0 hf, hf⟩
theorem x_token (h : RgX w W p r Z ks) (hs : r.seen.length ≤ 1000) (hl : r.late.length ≤ 1000) : Calls Try.prog 14 #[.pointer (some ⟨p, 0, none⟩)] W fun e W' => ∃ so' sc' lo' lc', e = .returned (.agg #[.int .i64 r.own, .int .i64 r.next, .slice so' r.seen.length sc', .slice lo' r.late.length lc']) ∧ RgX w W' p r Z ks := by
  obtain ⟨qv, sv, lv, vs, h1, _⟩ := id h
  refine (ring_token p r qv sv lv vs W h1 hs hl).mono ?_
  rintro e W' ⟨so, sc, lo, lc, rfl, _, _, hf⟩
  exact ⟨so, sc, lo, lc, rfl, h.fr0 hf⟩
theorem x_put (hb : RgX w Wb p r Z ks) (hf : Fr no Wb W) (q : Int) (d : Dr) (hd : IntsAt W d.dv d.dep) (hdb : ∀ g, d.dv.ownBlock = some g → Wb.heap.size ≤ g) (ho : SeenOk r.seen) (hql : ∀ l ∈ r.qs, l.length ≤ 1000) :
    Calls Try.prog 9 #[.pointer (some ⟨p, 0, none⟩), .int .i64 q, d.v] W fun e W' => e = .returned (.int .i64 (rput r q d).2) ∧ RgX w W' p (rput r q d).1 Z ks ∧ Fr (fun g => ¬ Z g) Wb W' := by
  obtain ⟨qv, sv, lv, vs, h1, h2, h3, h4, h5, h6, h7, h8⟩ := hb
  have hdx : RdX (RgOwn p qv vs) W 1 d.dv d.dep.length (d.dep.map (Value.int .i64)) := ⟨hd, fun _ g hg e => by have := h1.lt g e; have := hdb g hg; omega⟩
  refine (ring_put p r qv sv lv vs q d W (h1.fr0 hf) hdx ho hql).mono ?_
  rintro e W' ⟨vs', rfl, hT, hF, hO⟩
  have hsz := hf.size
  refine ⟨rfl, ⟨qv, sv, lv, vs', hT, (h2.trans' hf).trans hF (fun i hi e => by have := (h3 i e).1; omega), fun g hg => ?_, fun g hg => Nat.lt_of_lt_of_le (h4 g hg) (Nat.le_trans hsz hF.size), ⟨hT.seen.rd, ?_⟩, ⟨hT.late.rd, ?_⟩, fun x hx => ⟨(hT.dep x hx).rd, ?_⟩, kept (fun k hk => ⟨(h8 k hk).1, (h8 k hk).2.fr hf (fun _ _ f => f.elim)⟩) hF hO⟩, (hf.mono (fun _ _ f => f.elim)).trans' (hF.mono (fun k _ e => (h3 k e).2))⟩
  · rcases hO g hg with e | e
    · exact h3 g e
    · have := h2.size; exact ⟨by omega, fun z => by have := h4 g z; omega⟩
  · rw [(rput_seen r q d).1]; exact h5.2
  · rw [(rput_seen r q d).2]; exact h6.2
  · rcases rput_mem r q d x hx with hx | rfl
    · exact (h7 x hx).2
    · exact fun _ g hg e => by have := h4 g e; have := hdb g hg; omega
theorem x_turn (h : RgX w W p r Z ks) (hk : RgOk r) :
    Calls Try.prog 12 #[.pointer (some ⟨p, 0, none⟩)] W fun e W' => ∃ oo oc, e = .returned (.slice oo (rrun r).out.length oc) ∧ RgX w W' p (rturn r) Z (⟨7, (rrun r).out.length, .slice oo (rrun r).out.length oc, slCells (rrun r).out⟩ :: ks) ∧
      AdN (r.late.length + (r.qs[r.at_]?.getD []).length) r.next (rrun r) ∧ Fr (fun g => ¬ Z g) W W' := by
  obtain ⟨qv, sv, lv, vs, h1, h2, h3, h4, h5, h6, h7, h8⟩ := h
  refine (ring_turn p r qv sv lv vs W h1 hk).mono ?_
  rintro e W' ⟨sv', lv', ov, vs', rfl, hT, hR, hA, hF, hO, hs, hl, hov⟩
  obtain ⟨oo, oc, rfl, _, _⟩ := hR.cap
  have hO' : ∀ g, RgOwn p qv vs' g → RgOwn p qv vs g ∨ W.heap.size ≤ g := fun g hg => .inl (hO g hg)
  refine ⟨oo, oc, rfl, ⟨qv, sv', lv', vs', hT, h2.trans hF (fun i hi e => by have := (h3 i e).1; omega), fun g hg => h3 g (hO g hg), fun g hg => Nat.lt_of_lt_of_le (h4 g hg) hF.size, ⟨hT.seen.rd, fun h0 g hg e => ?_⟩, ⟨hT.late.rd, fun h0 g hg e => ?_⟩, fun x hx => ⟨(hT.dep x hx).rd, (h7 x ?_).2⟩, fun k hk' => ?_⟩, hA, hF.mono (fun k _ e => (h3 k e).2)⟩
  · rcases hs with es | es
    · obtain ⟨a1, c1, e3, _, _⟩ := hT.seen.rd.cap
      obtain ⟨a2, c2, e4, _, _⟩ := h5.rd.cap
      rw [es] at hg e3
      rw [e3] at e4
      injection e4 with _ e5 _
      exact h5.2 (by omega) g hg e
    · have := es g hg; have := h4 g e; omega
  · have := hl g hg; have := h4 g e; omega
  · rcases hx with hx | ⟨l, hl', hx⟩
    · exact rrun_late hk.at_ x hx
    · rcases List.mem_or_eq_of_mem_set hl' with hl' | rfl
      · exact .inr ⟨l, hl', hx⟩
      · cases hx
  · rcases List.mem_cons.1 hk' with rfl | hk'
    · exact ⟨Nat.succ_pos 6, hR, fun _ g hg e => by have := hov g hg; have := h1.lt g (hO g e); omega⟩
    · exact kept h8 hF hO' k hk'
theorem x_resize (h : RgX w W p r Z ks) (N : Nat) (hN : 1 ≤ N ∧ N ≤ 8) (hq1 : 1 ≤ r.qs.length) (hq8 : r.qs.length ≤ 8) (hl8 : ∀ l ∈ r.qs, l.length ≤ 1000) :
    Calls Try.prog 16 #[.pointer (some ⟨p, 0, none⟩), .int .i64 (N : Int)] W fun e W' => e = .returned (.int .i64 0) ∧ RgX w W' p (rresize r N) Z ks := by
  obtain ⟨qv, sv, lv, vs, h1, h2, h3, h4, h5, h6, h7, h8⟩ := h
  refine (ring_resize p r qv sv lv vs N W h1 hN hq1 hq8 hl8).mono ?_
  rintro e W' ⟨qv', vs', rfl, hT, hF, hO⟩
  refine ⟨rfl, qv', sv, lv, vs', hT, h2.trans hF (fun i hi e => by have := (h3 i e).1; omega), fun g hg => ?_, fun g hg => Nat.lt_of_lt_of_le (h4 g hg) hF.size, ⟨hT.seen.rd, h5.2⟩, ⟨hT.late.rd, h6.2⟩, fun x hx => ⟨(hT.dep x hx).rd, (h7 x (rresize_mem r N x hq1 hx)).2⟩, kept h8 hF hO⟩
  rcases hO g hg with e | e
  · exact h3 g e
  · have := h2.size; exact ⟨by omega, fun z => by have := h4 g z; omega⟩
theorem x_resize_bad (h : RgX w W p r Z ks) (N : Int) (hN : N < 1 ∨ 8 < N) :
    Calls Try.prog 16 #[.pointer (some ⟨p, 0, none⟩), .int .i64 N] W fun e W' => e = .returned (.int .i64 1) ∧ W = W' := by
  clear h
  by_cases h1 : N < 1
  · go_enter Try.func16, Try.ntmps16
    go_wp2
    go_ret
    exact ⟨rfl, rfl⟩
  · have h8 : 8 < N := by omega
    go_enter Try.func16, Try.ntmps16
    go_wp2
    go_ret
    exact ⟨rfl, rfl⟩
/-- Begin with a token that has seen nothing, and nobody waits -/
theorem x_begin (h : RgX w W p r (fun _ => False) ks) (own next : Int) (hown : 0 ≤ own ∧ own < 8) (hnx : 0 ≤ next) (hq1 : 1 ≤ r.qs.length) (hq8 : r.qs.length ≤ 8) :
    Calls Try.prog 15 #[.pointer (some ⟨p, 0, none⟩), .agg #[.int .i64 own, .int .i64 next, .slice none 0 0, .slice none 0 0]] W fun e W' => e = .returned (.int .i64 (if own = r.own then 0 else 1)) ∧ RgX w W' p (if own = r.own then rbegin r next [] [] else r) (fun _ => False) ks := by
  obtain ⟨qv, sv, lv, vs, h1, h2, h3, h4, h5, h6, h7, h8⟩ := h
  have hc : tcheck own next [] = 0 := by
    unfold tcheck
    rw [if_neg (by omega), if_neg (by omega), if_neg (by omega)]
    rfl
  have hb := ring_begin p r qv sv lv vs own next (.slice none 0 0) (.slice none 0 0) [] [] W h1 (Sl.nil W 0 1).rd (show DrsAt W (.slice none 0 0) [] from (Sl.nil W 0 6).rd) (by intro d hd; cases hd) (by decide) (by decide) hq1 hq8
  rw [hc, if_pos rfl] at hb
  refine hb.mono ?_
  rintro e W' ⟨qv', sv', lv', vs', rfl, hT, hF, hO⟩
  refine ⟨rfl, qv', sv', lv', vs', by simpa using hT, h2.trans hF (fun i hi e => by have := (h3 i e).1; omega), fun g hg => ?_, fun g f => f.elim, ?_, ?_, ?_, kept h8 hF hO⟩
  · rcases hO g hg with e | e
    · exact h3 g e
    · have := h2.size; exact ⟨by omega, fun f => f⟩
  · have := hT.seen.anti (X' := fun _ => False) (fun _ f => f.elim); simpa using this
  · have := hT.late.anti (X' := fun _ => False) (fun _ f => f.elim); simpa using this
  · intro x hx
    have := (hT.dep x (by simpa using hx)).anti (X' := fun _ => False) (fun _ f => f.elim)
    exact this
end Go.Proofs.Ytlohbikkhojlaaa
