/- Package stripe: Parse. -/
import Derived.Test.YtkdcldnbdhfobaaDoorMp2
import Derived.Test.YtkdcldnbdhfobaaDoorSseq
import Derived.Test.YtkdcldnbdhfobaaDoorGl
namespace Go.XL
open Go.RowKit Go.Shelf
set_option linter.unusedVariables false
set_option linter.unusedSimpArgs false
/-- a span in words -/
def mpw (w : List UInt8) : Option (Int × Int) :=
  if (Lib.cut w [47]).2.2 = true ∧ (vnum (Lib.cut w [47]).1 2147483647).2 = 0 ∧ (vnum (Lib.cut w [47]).2.1 2147483647).2 = 0 then some ((vnum (Lib.cut w [47]).1 2147483647).1, (vnum (Lib.cut w [47]).2.1 2147483647).1) else none
def mpall : List (List UInt8) → Option Mp
  | [] => some []
  | w :: ws => match mpw w, mpall ws with
    | some x, some m => some (x :: m)
    | _, _ => none
def mwords (l : List UInt8) : List (List UInt8) := if l = [] then [] else wsplit l
/-- what a text is as a map -/
def mparse (l : List UInt8) : Mp × Int := match mpall (mwords l) with | none => ([], 2) | some m => if mcheck m = 0 then (m, 0) else ([], 1)
theorem mpall_app (a b : List (List UInt8)) : mpall (a ++ b) = match mpall a, mpall b with | some x, some y => some (x ++ y) | _, _ => none := by
  induction a with
  | nil => simp only [List.nil_append, mpall]; cases mpall b <;> rfl
  | cons w a ih =>
    rw [List.cons_append, mpall, mpall, ih]
    cases mpw w <;> cases mpall a <;> cases mpall b <;> rfl
theorem mpall_bad {a b : List (List UInt8)} {w : List UInt8} (h : mpw w = none) : mpall (a ++ w :: b) = none := by
  rw [mpall_app, mpall, h]
  cases mpall a <;> rfl
theorem mpall_snoc {a : List (List UInt8)} {w : List UInt8} {m : Mp} {x : Int × Int} (ha : mpall a = some m) (h : mpw w = some x) : mpall (a ++ [w]) = some (m ++ [x]) := by
  rw [mpall_app, ha, mpall, mpall, h]
theorem mparse_bad {l : List UInt8} {a b : List (List UInt8)} {w : List UInt8} (hl : mwords l = a ++ w :: b) (h : mpw w = none) : mparse l = ([], 2) := by
  unfold mparse
  rw [hl, mpall_bad h]
theorem mparse_ok {l : List UInt8} {m : Mp} (h : mpall (mwords l) = some m) : mparse l = if mcheck m = 0 then (m, 0) else ([], 1) := by
  unfold mparse
  rw [h]
/-- memory between two rounds of Parse: the results' boxes, the row's, the iterator's -/
structure PaI (TM TE TSp S I : TypeId) (G : World → Prop) (w : World) (m : Mp) (st : SsSt) (W : World) : Prop where
  r2 : W.heap[w.heap.size]? = some (.cells #[.slice none 0 0] TM (0, 0))
  r3 : W.heap[w.heap.size + 1]? = some (.cells #[.int .i64 0] TE (0, 0))
  ou : ∃ ao cap, W.heap[w.heap.size + 2]? = some (.cells #[.slice ao m.length cap] TM (0, 0)) ∧ Sl W TSp 2 (.slice ao m.length cap) m.length (mpCells m) ∧ ∀ g, (Value.slice ao m.length cap).ownBlock = some g → w.heap.size + 6 ≤ g
  pre : SsPre S I G (w.heap.size + 4) (w.heap.size + 3) (w.heap.size + 5) st W
  fr : Fr no w W
theorem PaI.step {TM TE TSp S I : TypeId} {G : World → Prop} {w : World} {m : Mp} {st st' : SsSt} {W W1 : World} {x : List UInt8} (h : PaI TM TE TSp S I G w m st W) (hs : SsStep S (w.heap.size + 3) st W x st' W1) (hG : ∀ U U', G U → Fr (fun k => k = w.heap.size + 3) U U' → G U') : PaI TM TE TSp S I G w m st' W1 := by
  obtain ⟨r, h1, hf, hb, h2⟩ := hs
  obtain ⟨ao, cap, o1, o2, o3⟩ := h.ou
  have hr := h.pre.b2 r h1
  refine ⟨hf.heap h.r2 (by omega), hf.heap h.r3 (by omega), ⟨ao, cap, hf.heap o1 (by omega), o2.fr hf (fun g hg e => by have := o3 g hg; omega), o3⟩, ?_, h.fr.trans hf (fun k hk e => by omega)⟩
  have hsp := hf.heap h.pre.sp (by omega)
  have hz := hf.heap h.pre.z (by omega)
  have hg := hG _ _ h.pre.gl hf
  rcases h2 with ⟨wd, r', hr', hw, hx, hs⟩ | ⟨hw, hx, hs⟩
  · subst hs
    refine ⟨hsp, hb, hz, hg, hr, fun r2 h2 => ?_⟩
    injection h2 with h2
    subst h2
    rw [hr'] at hr
    simp at hr
    omega
  · subst hs
    exact ⟨hsp, hb, hz, hg, hr, fun r2 h2 => by cases h2⟩
theorem PaI.fr0 {TM TE TSp S I : TypeId} {G : World → Prop} {w : World} {m : Mp} {st : SsSt} {W W1 : World} (h : PaI TM TE TSp S I G w m st W) (hf : Fr no W W1) (hG : ∀ U U', G U → Fr no U U' → G U') : PaI TM TE TSp S I G w m st W1 := by
  obtain ⟨ao, cap, o1, o2, o3⟩ := h.ou
  exact ⟨hf.heap h.r2 (fun f => f), hf.heap h.r3 (fun f => f), ⟨ao, cap, hf.heap o1 (fun f => f), o2.fr hf (fun _ _ f => f), o3⟩, ⟨hf.heap h.pre.sp (fun f => f), hf.heap h.pre.bx (fun f => f), hf.heap h.pre.z (fun f => f), hG _ _ h.pre.gl hf, h.pre.b1, h.pre.b2⟩, h.fr.trans' hf⟩
theorem PaI.bk {TM TE TSp S I : TypeId} {G : World → Prop} {w : World} {m : Mp} {st : SsSt} {W W1 : World} {B : Nat} (h : PaI TM TE TSp S I G w m st W) (hb : Bk B W W1) (hB : w.heap.size ≤ B) (hG : ∀ U U', G U → Bk B U U' → G U') : PaI TM TE TSp S I G w m st W1 := by
  obtain ⟨ao, cap, o1, o2, o3⟩ := h.ou
  exact ⟨hb.heap h.r2 rfl, hb.heap h.r3 rfl, ⟨ao, cap, hb.heap o1 rfl, o2.bk hb, o3⟩, ⟨hb.heap h.pre.sp rfl, hb.heap h.pre.bx rfl, hb.heap h.pre.z rfl, hG _ _ h.pre.gl hb, h.pre.b1, h.pre.b2⟩, hb.fr h.fr hB⟩
theorem PaI.grow {TM TE TSp S I : TypeId} {G : World → Prop} {w : World} {m : Mp} {st : SsSt} {W W6 : World} {ao ao6 : Option Addr} {cap cap6 : Nat} {f c : Int} (h : PaI TM TE TSp S I G w m st W) (ho : W.heap[w.heap.size + 2]? = some (.cells #[.slice ao m.length cap] TM (0, 0)))
    (hown : ∀ g, (Value.slice ao m.length cap).ownBlock = some g → w.heap.size + 6 ≤ g) (hs6 : Sl W6 TSp 2 (.slice ao6 (m.length + 1) cap6) (m.length + 1) (mpCells m ++ [.int .i64 f, .int .i64 c]))
    (hf6 : Fr (fun k => (Value.slice ao m.length cap).ownBlock = some k) W W6) (ho6 : (Value.slice ao6 (m.length + 1) cap6).ownBlock = (Value.slice ao m.length cap).ownBlock ∨ ∀ g, (Value.slice ao6 (m.length + 1) cap6).ownBlock = some g → W.heap.size ≤ g)
    (hG : ∀ U U', G U → Fr (fun k => w.heap.size ≤ k) U U' → G U') : PaI TM TE TSp S I G w (m ++ [(f, c)]) st (W6.setCell ⟨w.heap.size + 2, 0, none⟩ (.slice ao6 (m.length + 1) cap6)) := by
  have hsz : w.heap.size + 6 ≤ W.heap.size := (Array.getElem?_eq_some_iff.1 h.pre.z).1
  have hn : ∀ k, k < w.heap.size + 6 → ¬ (Value.slice ao m.length cap).ownBlock = some k := fun k hk e => by have := hown k e; omega
  have hfs : Fr (fun k => k = w.heap.size + 2) W6 (W6.setCell ⟨w.heap.size + 2, 0, none⟩ (.slice ao6 (m.length + 1) cap6)) := (Fr.refl (fun k => k = w.heap.size + 2) W6).setCell (p := ⟨w.heap.size + 2, 0, none⟩) (fun _ => rfl) _
  have hown6 : ∀ g, (Value.slice ao6 (m.length + 1) cap6).ownBlock = some g → w.heap.size + 6 ≤ g := fun g hg => by
    rcases ho6 with e | e
    · exact hown g (by rw [← e]; exact hg)
    · have := e g hg; omega
  have hcells : mpCells (m ++ [(f, c)]) = mpCells m ++ [.int .i64 f, .int .i64 c] := by rw [mpCells_app]; rfl
  refine ⟨hfs.heap (hf6.heap h.r2 (hn _ (by omega))) (by omega), hfs.heap (hf6.heap h.r3 (hn _ (by omega))) (by omega), ⟨ao6, cap6, ?_, ?_, ?_⟩, ⟨hfs.heap (hf6.heap h.pre.sp (hn _ (by omega))) (by omega), hfs.heap (hf6.heap h.pre.bx (hn _ (by omega))) (by omega), hfs.heap (hf6.heap h.pre.z (hn _ (by omega))) (by omega), ?_, h.pre.b1, h.pre.b2⟩, ?_⟩
  · rw [List.length_append]
    exact heap_setC _ (hf6.heap ho (hn _ (by omega)))
  · rw [List.length_append, hcells]
    exact hs6.fr hfs (fun g hg e => by have := hown6 g hg; omega)
  · rw [List.length_append]; exact hown6
  · exact hG _ _ (hG _ _ h.pre.gl (hf6.mono (fun k _ e => by have := hown k e; omega))) (hfs.mono (fun k _ e => by omega))
  · exact (h.fr.trans hf6 (fun k hk e => absurd e (hn k (by omega)))).trans hfs (fun k hk e => by omega)
end Go.XL
