/- Maps of the call's own, whatever their elements: what each key's element is. -/
import Derived.Test.YtbjipgignnaomaaOwn
import Derived.Maps.OwnOps
import Derived.Maps.OwnSet
import Derived.Maps.Views
import Derived.DeepKeys4
import Derived.WideKeyEntry
namespace Go.XL
open Go.RowKit Go.Shelf
open Go.Maps (Keyed)
set_option linter.unusedVariables false
set_option linter.unusedSimpArgs false

/-- every element reads as itself -/
def anyElem (v : Value) : Option (DataW Value × List MemPlace) := some (.held v, [])

/-- block b of w is a map of at most n entries; m: each key's element, z where there is none -/
def MapAt (w : World) (P : Program) (k : TypeId) (z : Value) (b n : Nat) (m : Value → Value) : Prop :=
  ∃ D, w.ownsMap P k anyElem b n D ∧ ∀ key kl, keyOf P k key = some kl → D.atKey kl (.held z) = .held (m key)

theorem MapAt.made (w : World) (P : Program) (k : TypeId) (z : Value) : MapAt (w.alloc (.map #[] 0)) P k z w.heap.size 0 (fun _ => z) :=
  ⟨_, World.ownsMap_made w P k anyElem, fun _ _ _ => rfl⟩
theorem MapAt.lt {w : World} {P : Program} {k : TypeId} {z : Value} {b n : Nat} {m : Value → Value} (h : MapAt w P k z b n m) : b < w.heap.size := by obtain ⟨D, h, _⟩ := h; exact h.lt
theorem MapAt.mono {w : World} {P : Program} {k : TypeId} {z : Value} {b n n' : Nat} {m : Value → Value} (h : MapAt w P k z b n m) (hn : n ≤ n') : MapAt w P k z b n' m := by obtain ⟨D, h, h2⟩ := h; exact ⟨D, h.mono hn, h2⟩
theorem MapAt.of_block {w w' : World} {P : Program} {k : TypeId} {z : Value} {b n : Nat} {m : Value → Value} (h : MapAt w P k z b n m) (hb : w'.heap[b]? = w.heap[b]?) : MapAt w' P k z b n m := by
  obtain ⟨D, ⟨es, c, h1, h2, h3, h4⟩, h5⟩ := h
  exact ⟨D, ⟨es, c, hb.trans h1, h2, h3, h4⟩, h5⟩
theorem MapAt.fr {F : Nat → Prop} {w w' : World} {P : Program} {k : TypeId} {z : Value} {b n : Nat} {m : Value → Value} (h : MapAt w P k z b n m) (hf : Fr F w w') (hF : ¬ F b) : MapAt w' P k z b n m :=
  h.of_block (hf.block b h.lt hF)
theorem MapAt.bk {B : Nat} {w w' : World} {P : Program} {k : TypeId} {z : Value} {b n : Nat} {m : Value → Value} (h : MapAt w P k z b n m) (hf : Bk B w w') : MapAt w' P k z b n m := by
  obtain ⟨D, ⟨es, c, h1, h2, h3, h4⟩, h5⟩ := h
  exact ⟨D, ⟨es, c, hf.heap h1 rfl, h2, h3, h4⟩, h5⟩
theorem MapAt.look {w : World} {P : Program} {k t e : TypeId} {z : Value} {b n : Nat} {m : Value → Value} (h : MapAt w P k z b n m) (K : Keyed P k) (ht : P.underlying t = some (.map k e)) (hz : (zeroValue e).run P w = .ok z w)
    {key : Value} {kl : Lit} (hkey : keyOf P k key = some kl) : (Instr.lookup t (.map (some b)) key false).run P w = .ok (m key) w := by
  obtain ⟨D, h1, h2⟩ := h
  obtain ⟨v, ps, hrun, hv⟩ := h1.lookup K ht hz (R := anyElem) rfl hkey
  rw [h2 key kl hkey] at hv
  simp [anyElem] at hv
  rw [hrun, hv.1]
theorem MapAt.put {w : World} {P : Program} {k t e : TypeId} {z : Value} {b n : Nat} {m : Value → Value} (h : MapAt w P k z b n m) (K : Keyed P k) (ht : P.underlying t = some (.map k e)) (hn : n < maxLen) {key : Value} {kl : Lit} (hkey : keyOf P k key = some kl) (val : Value) :
    ∃ w', (Instr.mapUpdate t (.map (some b)) key val).run P w = .ok () w' ∧ (∀ m' : Value → Value, m' key = val → (∀ x, x ≠ key → m' x = m x) → MapAt w' P k z b (n + 1) m') ∧ Fr (fun g => g = b) w w' := by
  obtain ⟨D, h1, h2⟩ := h
  obtain ⟨w', hrun, h3, hg⟩ := h1.update K ht hn hkey (val := val) (R := anyElem) rfl
  refine ⟨w', hrun, fun m' hm hm' => ⟨_, h3, fun x xl hx => ?_⟩, (Fr.refl _ w).grown hg (fun i hi _ => by cases hi; rfl)⟩
  by_cases e : x = key
  · subst e
    have : xl = kl := by rw [hkey] at hx; exact (Option.some.inj hx).symm
    subst this
    rw [Maps.atKey_put_same h1.isMap (K.key hkey), hm]
  · have hne : xl ≠ kl := fun e' => e (K.inj (e' ▸ hx) hkey)
    rw [Maps.atKey_put_other hne, h2 x xl hx, hm' x e]

/-- an entry found or made, then written -/
theorem MapAt.entry {w : World} {P : Program} {k t e : TypeId} {z : Value} {b n : Nat} {m : Value → Value} (h : MapAt w P k z b n m) (K : WideMaps.KeyLaw P k) (ht : P.underlying t = some (.map k e)) (hz : ∀ u : World, (zeroValue e).run P u = .ok z u) (hn : n < maxLen) {key : Value} {kl : Lit} (hkey : keyOf P k key = some kl) (val : Value) :
    ∃ (v0 : Value) (st : Nat) (w1 w2 : World), (Instr.mapEntry t (.map (some b)) key).run P w = .ok (.tuple #[v0, .int .i64 st]) w1 ∧ Fr (fun g => g = b) w w1 ∧ (Instr.entryStore t (.map (some b)) (.int .i64 st) val).run P w1 = .ok () w2 ∧ Fr (fun g => g = b) w1 w2 ∧
      ∀ m' : Value → Value, m' key = val → (∀ x, x ≠ key → m' x = m x) → MapAt w2 P k z b (n + 1) m' := by
  obtain ⟨w', hup, hm, _⟩ := h.put (Keyed.of_law K) ht hn hkey val
  obtain ⟨D, ⟨es, clock, hb, F, h3, h4⟩, h2⟩ := h
  obtain ⟨v0, st, es1, c1, hent, _, hst⟩ := WideElems.entry_then_store (P := P) K ht hz hb F hkey
  have hlt := (Array.getElem?_eq_some_iff.1 hb).1
  have hset : ∀ (W : World) (o : Obj) (es : Array MapEntry) (c : Nat), W.heap[b]? = some (.map es c) → (ChangeMaps.setBlock W b o).heap[b]? = some o ∧ Fr (fun g => g = b) W (ChangeMaps.setBlock W b o) := fun W o _ _ hW =>
    ⟨ChangeMaps.heap_setBlock_same hW _, ⟨rfl, rfl, rfl, by simp [ChangeMaps.setBlock], fun i _ hi => ChangeMaps.heap_setBlock_other hW _ (fun e => hi (by rw [e]))⟩⟩
  obtain ⟨s1, f1⟩ := hset w (.map es1 c1) _ _ hb
  obtain ⟨es', c', hrun, hup2⟩ := hst _ val s1
  obtain ⟨s2, f2⟩ := hset (ChangeMaps.setBlock w b (.map es1 c1)) (.map es' c') _ _ s1
  obtain ⟨s3, _⟩ := hset w (.map es' c') _ _ hb
  rw [hup] at hup2
  have e1 : w' = ChangeMaps.setBlock w b (.map es' c') := by cases hup2; rfl
  subst e1
  exact ⟨v0, st, _, _, hent, f1, hrun, f2, fun m' q1 q2 => (hm m' q1 q2).of_block (s2.trans s3.symm)⟩

/-- a key of two whole numbers -/
theorem key2 {P : Program} {k ti : TypeId} {f g : Field} (hk : P.underlying k = some (.struct #[f, g])) (hi : P.underlying ti = some (.int .i64)) (hf : f.type = ti) (hg : g.type = ti) (hfo : f.offset = 0) (hgo : g.offset = 1) (hfn : f.name ≠ "_") (hgn : g.name ≠ "_") (hc : P.cellsOf k = 2) (hci : P.cellsOf ti = 1)
    (hkt : P.keyType k = true) {a b : Int} (ha : -9223372036854775808 ≤ a ∧ a ≤ 9223372036854775807) (hb : -9223372036854775808 ≤ b ∧ b ≤ 9223372036854775807) (hts : 0 < P.types.size) :
    ∃ kl, keyOf P k (.agg #[.int .i64 a, .int .i64 b]) = some kl := by
  have hfm : ∀ a b : Int, Value.formed P k (.agg #[.int .i64 a, .int .i64 b]) = true := fun a b => by simp [Value.formed, hk, hc]
  have wa : (Lit.int .i64 a).wf = true := by simp [Lit.wf, IntKind.min, IntKind.max, IntKind.signed, IntKind.bits]; omega
  have wb : (Lit.int .i64 b).wf = true := by simp [Lit.wf, IntKind.min, IntKind.max, IntKind.signed, IntKind.bits]; omega
  obtain ⟨d, hd⟩ : ∃ d, P.types.size = d + 1 := ⟨P.types.size - 1, by omega⟩
  refine ⟨.string (keyBytes [.int .i64 a, .int .i64 b]), ?_⟩
  simp [keyOf, hk, hkt, hfm a b, hd, Program.keyLits, hc, hci, hi, hf, hg, hfo, hgo, hfn, hgn, wa, wb, Value.cells]
end Go.XL
