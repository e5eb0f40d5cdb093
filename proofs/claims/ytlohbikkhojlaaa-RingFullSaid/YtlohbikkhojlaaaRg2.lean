/- Package ring: Turn. -/
import Derived.Test.YtlohbikkhojlaaaRg1
import Derived.Test.YtlohbikkhojlaaaTokK
namespace Go.XL
open Go.RowKit Go.Shelf
set_option linter.unusedVariables false
set_option linter.unusedSimpArgs false
/-- what may be said of a ring's numbers -/
structure RgOk (r : Rg) : Prop where
  sk : SeenOk r.seen
  sl : r.seen.length ≤ 1000
  q : ∀ d : Dr, (d ∈ r.late ∨ ∃ l ∈ r.qs, d ∈ l) → 0 ≤ d.q ∧ d.q ≤ 1048576
  nx0 : 0 ≤ r.next
  nx : r.next ≤ 1099511627776
  at_ : r.at_ < r.qs.length
  qn : r.qs.length ≤ 8
  ln : ∀ l ∈ r.qs, r.late.length + l.length ≤ 1000
def rrun (r : Rg) : AS := ago r.own (r.late.length + (r.qs[r.at_]?.getD []).length) ⟨r.next, r.seen, r.late ++ (r.qs[r.at_]?.getD []), []⟩
def rturn (r : Rg) : Rg := ⟨r.room, r.qs.set r.at_ [], (r.at_ + 1) % r.qs.length, r.own, (rrun r).next, (rrun r).seen, alate r.own (rrun r).seen (rrun r).left []⟩
/-- what Admit left, apart from a block -/
structure TuA (U : World) (gt : Nat) (W : World) (R : AS) (own : Int) (sv0 sv tv ov : Value) : Prop where
  seen : RdX (fun g => g = gt) W 1 sv R.seen.length (R.seen.map (Value.int .i64))
  late : RdX (fun g => g = gt) W 6 tv (alate own R.seen R.left []).length (drCells (alate own R.seen R.left []))
  out : RdX (fun g => g = gt) W 7 ov R.out.length (slCells R.out)
  svo : sv = sv0 ∨ ∀ g, sv.ownBlock = some g → U.heap.size ≤ g
  tvo : ∀ g, tv.ownBlock = some g → U.heap.size ≤ g
  ovo : ∀ g, ov.ownBlock = some g → U.heap.size ≤ g
theorem TuA.fr {U W W' : World} {gt : Nat} {R : AS} {own : Int} {sv0 sv tv ov : Value} (h : TuA U gt W R own sv0 sv tv ov) (hf : Fr (fun g => g = gt) W W') : TuA U gt W' R own sv0 sv tv ov :=
  ⟨h.seen.fr hf (fun _ _ e => e), h.late.fr hf (fun _ _ e => e), h.out.fr hf (fun _ _ e => e), h.svo, h.tvo, h.ovo⟩
theorem tua_a {U wc wd : World} {gt : Nat} {own next : Int} {n : Nat} {R : AS} {sv0 sv tv ov : Value} (hA : AdR wc wd own next n R sv0 sv tv ov) (hU : U.heap.size ≤ wc.heap.size) (hg : wd.heap.size ≤ gt) : TuA U gt wd R own sv0 sv tv ov :=
  ⟨hA.seen.x (by decide) (fun g e => by omega), hA.late.x (by decide) (fun g e => by omega), hA.out.x (by decide) (fun g e => by omega), hA.svo.imp id (fun h g e => Nat.le_trans hU (h g e)), fun g e => Nat.le_trans hU (hA.tvo g e), fun g e => Nat.le_trans hU (hA.ovo g e)⟩
theorem tua_b {U wc wd : World} {gt : Nat} {own next : Int} {n : Nat} {R : AS} {seen : List Int} {sv0 sv tv ov : Value} (hA : AdR wc wd own next n R sv0 sv tv ov) (h0 : IntsAt U sv0 seen) (hU : U.heap.size ≤ gt) (hg : gt < wc.heap.size) : TuA U gt wd R own sv0 sv tv ov := by
  refine ⟨⟨hA.seen, fun h0' g e1 e2 => ?_⟩, ⟨hA.late, fun _ g e1 e2 => ?_⟩, ⟨hA.out, fun _ g e1 e2 => ?_⟩, hA.svo.imp id (fun h g e => by have := h g e; omega), fun g e => by have := hA.tvo g e; omega, fun g e => by have := hA.ovo g e; omega⟩
  · rcases hA.svo with e | e
    · obtain ⟨a1, c1, e3, _, _⟩ := hA.seen.cap
      obtain ⟨a2, c2, e4, _, _⟩ := h0.cap
      rw [e] at e1 e3
      rw [e3] at e4
      injection e4 with _ e5 _
      have hx := h0.x (X := fun g => U.heap.size ≤ g) (by decide) (fun g h => h)
      exact hx.2 (by omega) g e1 (by omega)
    · have := e g e1; omega
  · have := hA.tvo g e1; omega
  · have := hA.ovo g e1; omega
/-- four cells of a ring's block -/
theorem set7t {w : World} {g : Nat} {a0 a1 a2 a3 a4 a5 a6 : Value} {E : TypeId} (h : w.heap[g]? = some (.cells #[a0, a1, a2, a3, a4, a5, a6] E (0, 0))) (b3 b4 b5 b6 : Value) :
    ∃ w1 w2 w3 w4, w.setCell ⟨g, 3, none⟩ b3 = w1 ∧ w1.setCell ⟨g, 4, none⟩ b4 = w2 ∧ w2.setCell ⟨g, 5, none⟩ b5 = w3 ∧ w3.setCell ⟨g, 6, none⟩ b6 = w4 ∧
      w.cell? ⟨g, 3, none⟩ = some a3 ∧ w1.cell? ⟨g, 4, none⟩ = some a4 ∧ w2.cell? ⟨g, 5, none⟩ = some a5 ∧ w3.cell? ⟨g, 6, none⟩ = some a6 ∧
      w.frozen? ⟨g, 3, none⟩ = false ∧ w1.frozen? ⟨g, 4, none⟩ = false ∧ w2.frozen? ⟨g, 5, none⟩ = false ∧ w3.frozen? ⟨g, 6, none⟩ = false ∧
      w4.heap[g]? = some (.cells #[a0, a1, a2, b3, b4, b5, b6] E (0, 0)) ∧ Fr (fun i => i = g) w w4 := by
  have h1 : (w.setCell ⟨g, 3, none⟩ b3).heap[g]? = some (.cells #[a0, a1, a2, b3, a4, a5, a6] E (0, 0)) := by simpa using heap_setC (j := 3) b3 h
  have h2 : ((w.setCell ⟨g, 3, none⟩ b3).setCell ⟨g, 4, none⟩ b4).heap[g]? = some (.cells #[a0, a1, a2, b3, b4, a5, a6] E (0, 0)) := by simpa using heap_setC (j := 4) b4 h1
  have h3 : (((w.setCell ⟨g, 3, none⟩ b3).setCell ⟨g, 4, none⟩ b4).setCell ⟨g, 5, none⟩ b5).heap[g]? = some (.cells #[a0, a1, a2, b3, b4, b5, a6] E (0, 0)) := by simpa using heap_setC (j := 5) b5 h2
  have h4 : ((((w.setCell ⟨g, 3, none⟩ b3).setCell ⟨g, 4, none⟩ b4).setCell ⟨g, 5, none⟩ b5).setCell ⟨g, 6, none⟩ b6).heap[g]? = some (.cells #[a0, a1, a2, b3, b4, b5, b6] E (0, 0)) := by simpa using heap_setC (j := 6) b6 h3
  have F : ∀ (X : World) (j : Nat) (v : Value), Fr (fun i => i = g) X (X.setCell ⟨g, j, none⟩ v) := fun X j v => (Fr.refl (fun i => i = g) X).setCell (p := ⟨g, j, none⟩) (fun _ => rfl) _
  exact ⟨_, _, _, _, rfl, rfl, rfl, rfl, cell_of_block h rfl, cell_of_block h1 rfl, cell_of_block h2 rfl, cell_of_block h3 rfl, frozen_of_block h, frozen_of_block h1, frozen_of_block h2, frozen_of_block h3, h4, ((F _ _ _).trans' (F _ _ _)).trans' ((F _ _ _).trans' (F _ _ _))⟩
/-- a queue handed over, the token's cells and the place written -/
theorem RgAt.turn {RT QT DT : TypeId} {w w2 w3 w4 : World} {p : Nat} {r r' : Rg} {gq oq cq : Nat} {sv lv sv' lv' : Value} {vs : List Value} (h : RgAt RT QT DT w p r (.slice (some ⟨gq, oq, none⟩) r.qs.length cq) sv lv vs) (hi : r.at_ < r.qs.length)
    (hq : r'.qs = r.qs.set r.at_ []) (hs : RdX (RgOwn p (.slice (some ⟨gq, oq, none⟩) r.qs.length cq) vs) w 1 sv' r'.seen.length (r'.seen.map (Value.int .i64))) (hl : RdX (RgOwn p (.slice (some ⟨gq, oq, none⟩) r.qs.length cq) vs) w 6 lv' r'.late.length (drCells r'.late))
    (hd : ∀ d ∈ r'.late, d ∈ r.late ∨ ∃ l ∈ r.qs, d ∈ l)
    (hf2 : Fr (fun i => i = p) w w2) (hw3 : w2.setCell ⟨gq, oq + r.at_, none⟩ (.slice none 0 0) = w3) (hf4 : Fr (fun i => i = p) w3 w4)
    (hb4 : w4.heap[p]? = some (.cells #[.int .i64 r'.room, .slice (some ⟨gq, oq, none⟩) r.qs.length cq, .int .i64 (r'.at_ : Int), .int .i64 r'.own, .int .i64 r'.next, sv', lv'] RT (0, 0))) :
    RgAt RT QT DT w4 p r' (.slice (some ⟨gq, oq, none⟩) r.qs.length cq) sv' lv' (vs.set r.at_ (.slice none 0 0)) ∧ Fr (RgOwn p (.slice (some ⟨gq, oq, none⟩) r.qs.length cq) vs) w w4 ∧
      (∀ g, RgOwn p (.slice (some ⟨gq, oq, none⟩) r.qs.length cq) (vs.set r.at_ (.slice none 0 0)) g → RgOwn p (.slice (some ⟨gq, oq, none⟩) r.qs.length cq) vs g) := by
  subst hw3
  have hqb : Value.ownBlock (.slice (some ⟨gq, oq, none⟩) r.qs.length cq) = some gq := rfl
  have hpq : gq ≠ p := fun e => h.ap1 (by rw [hqb, e])
  have f3 := fr_set w2 gq (oq + r.at_) (.slice none 0 0)
  have hX : ∀ g, RgOwn p (.slice (some ⟨gq, oq, none⟩) r.qs.length cq) (vs.set r.at_ (.slice none 0 0)) g → RgOwn p (.slice (some ⟨gq, oq, none⟩) r.qs.length cq) vs g := by
    rintro g (e | e | ⟨u, hu, e⟩)
    · exact .inl e
    · exact .inr (.inl e)
    · rcases List.mem_or_eq_of_mem_set hu with hu | rfl
      · exact .inr (.inr ⟨u, hu, e⟩)
      · simp [Value.ownBlock] at e
  have hfr : Fr (RgOwn p (.slice (some ⟨gq, oq, none⟩) r.qs.length cq) vs) w w4 :=
    ((hf2.mono (fun k _ e => .inl e)).trans' (f3.mono (fun k _ e => .inr (.inl (by rw [e]; exact hqb))))).trans' (hf4.mono (fun k _ e => .inl e))
  have key : ∀ {size : Nat} {u : Value} {n : Nat} {xs : List Value}, RdX (RgOwn p (.slice (some ⟨gq, oq, none⟩) r.qs.length cq) vs) w size u n xs → RdX (RgOwn p (.slice (some ⟨gq, oq, none⟩) r.qs.length cq) (vs.set r.at_ (.slice none 0 0))) w4 size u n xs := fun hx => (hx.fr hfr (fun g _ e => e)).anti hX
  have hvl := h.vlen
  refine ⟨⟨hb4, ?_, ?_, h.ap1, ?_, ?_, key hs, key hl, fun x hx => ?_⟩, hfr, hX⟩
  · have := ((h.qsl.fr hf2 (fun g hg e => by rw [hqb] at hg; cases hg; exact hpq e)).set r.at_ hi (.slice none 0 0)).fr hf4 (fun g hg e => by rw [hqb] at hg; cases hg; exact hpq e)
    rw [hq, List.length_set]
    exact this
  · intro j u k hu hk
    rw [hq] at hk
    rw [List.getElem?_set] at hu hk
    by_cases hij : r.at_ = j
    · subst hij
      rw [if_pos rfl, if_pos (by omega)] at hu
      rw [if_pos rfl, if_pos hi] at hk
      cases hu; cases hk
      simpa [drCells] using Sl.nil _ _ _
    · rw [if_neg hij] at hu hk
      have hap := h.ap2 j u hu
      exact (((h.q j u k hu hk).fr hf2 (fun g hg e => hap.1 (by rw [hg, e]))).fr f3 (fun g hg e => hap.2 gq hqb (by rw [hg, e]))).fr hf4 (fun g hg e => hap.1 (by rw [hg, e]))
  · intro j u hu
    rw [List.getElem?_set] at hu
    by_cases hij : r.at_ = j
    · subst hij
      rw [if_pos rfl, if_pos (by omega)] at hu
      cases hu
      simp [Value.ownBlock]
    · rw [if_neg hij] at hu
      exact h.ap2 j u hu
  · intro j k a b hjk ha hb g hg e
    rw [List.getElem?_set] at ha hb
    by_cases hij : r.at_ = j
    · subst hij
      rw [if_pos rfl, if_pos (by omega)] at ha
      cases ha
      simp [Value.ownBlock] at hg
    · rw [if_neg hij] at ha
      by_cases hik : r.at_ = k
      · subst hik
        rw [if_pos rfl, if_pos (by omega)] at hb
        cases hb
        simp [Value.ownBlock] at e
      · rw [if_neg hik] at hb
        exact h.ap3 j k a b hjk ha hb g hg e
  · rcases hx with hx | ⟨k, hk, hx⟩
    · exact key (h.dep x (hd x hx))
    · rw [hq] at hk
      rcases List.mem_or_eq_of_mem_set hk with hk | rfl
      · exact key (h.dep x (.inr ⟨k, hk, hx⟩))
      · cases hx
end Go.XL
