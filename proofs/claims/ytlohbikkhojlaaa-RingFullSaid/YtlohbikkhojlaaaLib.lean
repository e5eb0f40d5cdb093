/- Frames, book-keeping blocks, and a rule for a range over a function whose iterator may keep state in memory. -/
import Derived.RangeFuncNested
import Derived.RangeFuncBound
import Derived.RangeFuncCalls
import Derived.RangeFuncLeaves
import Derived.Shelf.Abstract
import Derived.WalkKit
import Derived.OwnWalkIn
import Derived.TacticsInMore
import Derived.LoopNIn
import Derived.LoopIn
import Derived.Lib.Hide
import Derived.StillTailTactics
import Derived.Deep.RegionHeld3
import Derived.Shelf.RegionOpen
import Derived.Deep.DeepCutAuto
import Derived.Deep.CutBlock
import Derived.Deep.QuietTactic
import Derived.BigQuiet
import Derived.WalkSpells
import Derived.WalkLawsBesides
namespace Go.XL
open Go.RowKit Go.Shelf
set_option linter.unusedVariables false
set_option linter.unusedSimpArgs false

/-- Old blocks outside F lie as they lay. -/
structure Fr (F : Nat → Prop) (w w' : World) : Prop where
  os : w'.os = w.os
  tape : w'.tape = w.tape
  output : w'.output = w.output
  size : w.heap.size ≤ w'.heap.size
  block : ∀ k, k < w.heap.size → ¬ F k → w'.heap[k]? = w.heap[k]?

abbrev no : Nat → Prop := fun _ => False

theorem Fr.refl (F : Nat → Prop) (w : World) : Fr F w w := ⟨rfl, rfl, rfl, Nat.le_refl _, fun _ _ _ => rfl⟩
theorem Fr.mono {F G : Nat → Prop} {w w' : World} (h : Fr F w w') (hFG : ∀ k, k < w.heap.size → F k → G k) : Fr G w w' :=
  ⟨h.os, h.tape, h.output, h.size, fun k hk hG => h.block k hk (fun hF => hG (hFG k hk hF))⟩
/-- a first part that may turn F, a second that may turn G and what is new -/
theorem Fr.trans {F G : Nat → Prop} {a b c : World} (h : Fr F a b) (k : Fr G b c) (hG : ∀ i, i < a.heap.size → G i → F i) : Fr F a c :=
  ⟨k.os.trans h.os, k.tape.trans h.tape, k.output.trans h.output, Nat.le_trans h.size k.size,
   fun i hi hF => (k.block i (Nat.lt_of_lt_of_le hi h.size) (fun g => hF (hG i hi g))).trans (h.block i hi hF)⟩
theorem Fr.trans' {F : Nat → Prop} {a b c : World} (h : Fr F a b) (k : Fr F b c) : Fr F a c := h.trans k (fun _ _ g => g)
theorem Fr.of_below {w w' : World} (h : Below w.heap.size w w') : Fr no w w' := ⟨h.os, h.tape, h.output, h.size, fun k hk _ => h.block k hk⟩
theorem Fr.below {w w' : World} (h : Fr no w w') : Below w.heap.size w w' := ⟨h.os, h.tape, h.output, h.size, fun k hk => h.block k hk (fun f => f)⟩
theorem Fr.to_below {F : Nat → Prop} {B : Nat} {w w' : World} (h : Fr F w w') (hB : B ≤ w.heap.size) (hF : ∀ k, k < B → ¬ F k) : Below B w w' :=
  ⟨h.os, h.tape, h.output, h.size, fun k hk => h.block k (by omega) (hF k hk)⟩
theorem Fr.alloc {F : Nat → Prop} {a w : World} (h : Fr F a w) (o : Obj) : Fr F a (w.alloc o) :=
  h.trans (G := no) ⟨rfl, rfl, rfl, by simp, fun k hk _ => Below.heap_alloc _ _ _ hk⟩ (fun _ _ f => f.elim)
theorem Fr.drew {F : Nat → Prop} {a w : World} (h : Fr F a w) : Fr F a w.drew := ⟨h.os, h.tape, h.output, h.size, h.block⟩
theorem Fr.drewN {F : Nat → Prop} {a w : World} (h : Fr F a w) (n : Nat) : Fr F a (w.drewN n) := ⟨h.os, h.tape, h.output, h.size, h.block⟩
theorem Fr.setCell {F : Nat → Prop} {a w : World} (h : Fr F a w) {p : Addr} (hp : p.block < a.heap.size → F p.block) (u : Value) : Fr F a (w.setCell p u) :=
  h.trans (G := fun k => k = p.block) ⟨rfl, rfl, rfl, by simp [World.setCell], fun k _ hne => Below.heap_setCell _ _ _ _ hne⟩ (fun i hi e => by subst e; exact hp hi)
theorem Fr.grown {F : Nat → Prop} {a w w' : World} {row : Option Nat} (h : Fr F a w) (hg : w.grownBy w' row) (hr : ∀ k, row = some k → k < a.heap.size → F k) : Fr F a w' :=
  h.trans (G := fun k => row = some k) ⟨hg.os, hg.tape, hg.output, hg.size, fun k hk hne => hg.block k hk (fun e => hne e.symm)⟩ (fun i hi e => hr i e hi)
theorem Fr.putObj {F : Nat → Prop} {a w : World} (h : Fr F a w) {r : Nat} (hr : r < a.heap.size → F r) (o : Obj) : Fr F a (w.putObj r o) :=
  h.trans (G := fun k => k = r) ⟨rfl, rfl, rfl, by simp, fun k _ hne => World.putObj_heap_other hne⟩ (fun i hi e => by subst e; exact hr hi)
theorem Fr.heap {F : Nat → Prop} {w w' : World} (h : Fr F w w') {k : Nat} {o : Obj} (hk : w.heap[k]? = some o) (hF : ¬ F k) : w'.heap[k]? = some o :=
  (h.block k (Array.getElem?_eq_some_iff.1 hk).1 hF).trans hk
theorem Fr.cell {F : Nat → Prop} {w w' : World} (h : Fr F w w') {p : Addr} {v : Value} (hk : w.cell? p = some v) (hF : ¬ F p.block) : w'.cell? p = some v :=
  (World.cell?_of_block (h.block p.block (World.block_lt_of_cell? w p hk) hF)).trans hk

/-! ### book-keeping blocks of loops -/
def isBook : Obj → Bool
  | .loop _ => true
  | .deferred _ => true
  | _ => false

/-- every book-keeping block lies as it lay -/
structure Kb (W W' : World) : Prop where
  size : W.heap.size ≤ W'.heap.size
  same : ∀ (k : Nat) (o : Obj), W.heap[k]? = some o → isBook o = true → W'.heap[k]? = some o
theorem Kb.refl (W : World) : Kb W W := ⟨Nat.le_refl _, fun _ _ h _ => h⟩
theorem Kb.trans {A B C : World} (h : Kb A B) (k : Kb B C) : Kb A C := ⟨Nat.le_trans h.size k.size, fun i o hi ho => k.same i o (h.same i o hi ho) ho⟩
/-- what turns no book-keeping block -/
theorem Fr.kb {F : Nat → Prop} {w w' : World} (h : Fr F w w') (hF : ∀ k, k < w.heap.size → F k → ∃ o, w.heap[k]? = some o ∧ isBook o = false) : Kb w w' :=
  ⟨h.size, fun k o hk ho => h.heap hk (fun hf => by
    obtain ⟨o', ho', hb⟩ := hF k (Array.getElem?_eq_some_iff.1 hk).1 hf
    rw [hk] at ho'; cases ho'; rw [ho] at hb; cases hb)⟩
theorem Kb.of_below {w w' : World} (h : Below w.heap.size w w') : Kb w w' := (Fr.of_below h).kb (fun _ _ f => f.elim)
theorem Kb.drewN (w : World) (n : Nat) : Kb w (w.drewN n) := ⟨Nat.le_refl _, fun _ _ h _ => h⟩
theorem Kb.drew (w : World) : Kb w w.drew := ⟨Nat.le_refl _, fun _ _ h _ => h⟩
theorem Kb.alloc (w : World) (o : Obj) : Kb w (w.alloc o) := ⟨by simp, fun k o' hk _ => (Below.heap_alloc w o k (Array.getElem?_eq_some_iff.1 hk).1).trans hk⟩
theorem Kb.setCell (w : World) (a : Addr) (u : Value) : Kb w (w.setCell a u) :=
  ⟨by simp [World.setCell], fun k o hk ho => by
    by_cases e : k = a.block
    · subst e
      obtain ⟨hlt, hk'⟩ := Array.getElem?_eq_some_iff.1 hk
      show (w.heap.modify a.block _)[a.block]? = some o
      rw [Array.getElem?_eq_getElem (by rw [Array.size_modify]; exact hlt), Array.getElem_modify_self, hk']
      cases o <;> first | rfl | (simp [isBook] at ho)
    · exact (Below.heap_setCell w a u k e).trans hk⟩

/-- from B on book-keeping blocks may have turned, and blocks may be new; all else lies as it lay -/
def Bk (B : Nat) (W W' : World) : Prop := Fr (fun k => B ≤ k ∧ ∃ o, W.heap[k]? = some o ∧ isBook o = true) W W'
theorem Bk.heap {B : Nat} {W W' : World} (h : Bk B W W') {k : Nat} {o : Obj} (hk : W.heap[k]? = some o) (ho : isBook o = false) : W'.heap[k]? = some o :=
  Fr.heap h hk (fun ⟨_, o', ho', hb⟩ => by rw [hk] at ho'; cases ho'; rw [ho] at hb; cases hb)
theorem Bk.cell {B : Nat} {W W' : World} (h : Bk B W W') {p : Addr} {v : Value} (hk : W.cell? p = some v) : W'.cell? p = some v := by
  have hb := Fr.block h p.block (World.block_lt_of_cell? W p hk) (fun ⟨_, o', ho', hb⟩ => by
    unfold World.cell? at hk
    rw [ho'] at hk
    cases o' <;> simp_all [isBook])
  exact (World.cell?_of_block hb).trans hk
theorem Bk.frozen {B : Nat} {W W' : World} (h : Bk B W W') {p : Addr} {v : Value} (hk : W.cell? p = some v) (hf : W.frozen? p = false) : W'.frozen? p = false := by
  have hb := Fr.block h p.block (World.block_lt_of_cell? W p hk) (fun ⟨_, o', ho', hb⟩ => by
    unfold World.cell? at hk
    rw [ho'] at hk
    cases o' <;> simp_all [isBook])
  exact (World.frozen?_of_block hb).trans hf
theorem Bk.fr {F : Nat → Prop} {B : Nat} {w W W' : World} (h : Bk B W W') (hf : Fr F w W) (hB : w.heap.size ≤ B) : Fr F w W' :=
  hf.trans h (fun i hi g => by have := g.1; omega)
theorem Bk.putObj {B : Nat} {W : World} {l : Nat} {o : Obj} (o' : Obj) (hl : W.heap[l]? = some o) (ho : isBook o = true) (hB : B ≤ l) : Bk B W (W.putObj l o') :=
  (Fr.refl _ W).putObj (fun _ => ⟨hB, o, hl, ho⟩) o'
theorem Bk.alloc (B : Nat) (W : World) (o : Obj) : Bk B W (W.alloc o) := (Fr.refl _ W).alloc o
theorem Bk.size {B : Nat} {W W' : World} (h : Bk B W W') : W.heap.size ≤ W'.heap.size := Fr.size h
theorem Bk.refl (B : Nat) (W : World) : Bk B W W := Fr.refl _ W
theorem Bk.drewN (B : Nat) (W : World) (n : Nat) : Bk B W (W.drewN n) := (Fr.refl _ W).drewN n
theorem Bk.mono {B C : Nat} {W W' : World} (h : Bk B W W') (hc : C ≤ B) : Bk C W W' := Fr.mono h (fun _ _ g => ⟨by omega, g.2⟩)

/-! ### an iterator's contract -/
/-- The iterator, a machine of states: at s it turns the world (Step) and gives x; then it is at s'; Done: it ends. -/
def IterC {σ α : Type} (F : Fence) (n : Nat) (P : Program) (gf : Nat) (lb : Array Value) (encs : α → Array Value) (Pre : σ → World → Prop) (Step : σ → World → α → σ → World → Prop) (Done : σ → World → World → Prop) (s0 : σ) : Prop :=
  ∀ (l : Nat) (J : σ → World → Prop) (Jx : World → Prop) (W : World), J s0 W → (∀ s W, J s W → Pre s W) →
    (∀ s W x s' W1, J s W → Step s W x s' W1 → YieldAt F (n - 1) P l (encs x) W1 fun e W2 => (e = .returned (.bool true) ∧ J s' W2) ∨ (e = .returned (.bool false) ∧ Jx W2)) →
    CallsIn F n P gf (#[.func (.yield l) #[] #[]] ++ lb) W fun e W' => (∃ v, e = .returned v) ∧ ((∃ s W2, J s W2 ∧ Done s W2 W') ∨ Jx W')

/-- How the body of a round may be left. -/
def rpost (W : World) (I : World → Prop) (Ix : Code → World → Prop) : Exit → Act → World → Prop
  | .normal, _, W' => Kb W W' ∧ I W'
  | .ret, _, W' => Kb W W' ∧ Ix .ret W'
  | .exit id, _, W' => Kb W W' ∧ Ix (.exit id) W'
  | .goto t, _, W' => Kb W W' ∧ Ix (.goto t) W'
  | .panic _, _, _ => False
  | .outgrown, _, _ => False

variable {F : Fence} {n : Nat} {P : Program}

/-- The rounds and the iterator together: from the world W1 behind 'enterLoop' to behind the iterator. -/
theorem range_core {σ α : Type} {ps : Array Tmp} {assign body : Code} {a : Act} {fn : FuncId} (hfn : F.fn fn)
    {gf : Nat} {lb : Array Value} {encs : α → Array Value} (hps : ∀ x, (encs x).size = ps.size)
    {Pre : σ → World → Prop} {Step : σ → World → α → σ → World → Prop} {Done : σ → World → World → Prop} {s0 : σ}
    (hiter : IterC F (n - 1) P gf lb encs Pre Step Done s0)
    (hstepK : ∀ s W x s' W1, Pre s W → Step s W x s' W1 → Kb W W1) (hdoneK : ∀ s W W', Pre s W → Done s W W' → Kb W W')
    (B l dl : Nat) (hBl : B ≤ l) (rec : LoopState → Option Code → Loop) (hrec : rec = fun st pe => { state := st, pending := pe, fn, tmps := a.tmps, params := ps, assign, body, defers := dl })
    (C : World → Prop) (hC : ∀ W W', C W → Kb W W' → C W') (hCp : ∀ W o, C W → C (W.putObj l o))
    (I : σ → World → Prop) (Ix : Code → World → Prop) (IA : α → σ → Act → World → Prop)
    (hI : ∀ s W W', I s W → Bk B W W' → I s W') (hIx : ∀ c W W', Ix c W → Bk B W W' → Ix c W') (hIA : ∀ x s a1 W W', IA x s a1 W → Bk B W W' → IA x s a1 W')
    (hPre : ∀ s W, I s W → Pre s W)
    (hassign : ∀ s W x s' W1, I s W → Step s W x s' W1 →
      assign.wpIn (F.inRound l) (n - 1 - 1) P (Exit.then (fun a1 Wa => Kb W1 Wa ∧ IA x s' a1 Wa) (fun _ _ _ => False)) { tmps := (ps.zip (encs x)).foldl (fun t (p, v) => t.setIfInBounds p v) a.tmps, defers := [] } W1)
    (hbody : ∀ x s' a1 Wb, (∃ r, Wb.heap[l]? = some (.loop r)) → IA x s' a1 Wb → body.wpIn (F.inRound l) (n - 1 - 1) P (rpost Wb (I s') Ix) a1 Wb)
    (W1 : World) (hL1 : W1.heap[l]? = some (.loop (rec .ready none))) (hC1 : C W1) (hI1 : I s0 W1) {R : Ending → World → Prop}
    (hdone : ∀ s W2 W', I s W2 → W2.heap[l]? = some (.loop (rec .ready none)) → C W2 → Done s W2 W' → W'.heap[l]? = some (.loop (rec .ready none)) → C W' → ∀ v, R (.returned v) W')
    (hstop : ∀ c W', Ix c W' → W'.heap[l]? = some (.loop (rec .done (some c))) → C W' → ∀ v, R (.returned v) W') :
    CallsIn F (n - 1) P gf (#[.func (.yield l) #[] #[]] ++ lb) W1 R := by
  refine (hiter l (fun s W => I s W ∧ W.heap[l]? = some (.loop (rec .ready none)) ∧ C W)
      (fun W => ∃ c, Ix c W ∧ W.heap[l]? = some (.loop (rec .done (some c))) ∧ C W) W1 ⟨hI1, hL1, hC1⟩ (fun s W h => hPre s W h.1) ?_).mono ?_
  · rintro s W x s' Wn ⟨hi, hl, hc⟩ hst
    have hkb := hstepK s W x s' Wn (hPre s W hi) hst
    have hln := hkb.same l _ hl rfl
    have hcn := hC _ _ hc hkb
    have hy := run_yield (P := P) (args := encs x) hln (by rw [hrec]; exact hps x)
    rw [hrec] at hy
    refine ⟨fn, _, assign, body, hy, roundIn_of_wpIn hfn (wpIn_mono (hassign s W x s' Wn hi hst) ?_)⟩
    rintro e a1 Wa hp
    cases e with
    | normal =>
      obtain ⟨hka, hia⟩ := hp
      have hla := hka.same l _ hln rfl
      have hca := hC _ _ hcn hka
      refine ⟨_, run_beginRound hla (by rw [hrec]), ?_⟩
      have hlt : l < Wa.heap.size := (Array.getElem?_eq_some_iff.1 hla).1
      have hl2 : (Wa.putObj l (.loop { rec .ready none with state := .busy })).heap[l]? = some (.loop { rec .ready none with state := .busy }) := World.putObj_heap_same hlt
      refine wpIn_mono (hbody x s' a1 _ ⟨_, hl2⟩ (hIA x s' a1 _ _ hia (Bk.putObj _ hla rfl hBl))) ?_
      have hc2 := hCp Wa (.loop { rec .ready none with state := .busy }) hca
      have fin : ∀ (jump : Option Code) (W3 : World), Kb (Wa.putObj l (.loop { rec .ready none with state := .busy })) W3 →
          (Instr.endRound l jump).run P W3 = .ok (.bool jump.isNone) (W3.putObj l (.loop (rec (if jump.isNone then .ready else .done) jump))) ∧
          W3.heap[l]? = some (.loop { rec .ready none with state := .busy }) ∧
          (W3.putObj l (.loop (rec (if jump.isNone then .ready else .done) jump))).heap[l]? = some (.loop (rec (if jump.isNone then .ready else .done) jump)) ∧
          C (W3.putObj l (.loop (rec (if jump.isNone then .ready else .done) jump))) := fun jump W3 hk3 => by
        have hl3 := hk3.same _ _ hl2 rfl
        have := run_endRound (P := P) jump hl3
        rw [hrec] at this ⊢
        exact ⟨this, by rw [hrec] at hl3; exact hl3, World.putObj_heap_same (Array.getElem?_eq_some_iff.1 hl3).1, hCp _ _ (hC _ _ hc2 hk3)⟩
      rintro e a3 W3 hp
      cases e with
      | normal =>
        obtain ⟨hk3, hi3⟩ := hp
        obtain ⟨hr, hl3, hl4, hc4⟩ := fin none W3 hk3
        exact ⟨_, _, hr, .inl ⟨rfl, hI _ _ _ hi3 (Bk.putObj _ hl3 rfl hBl), hl4, hc4⟩⟩
      | ret =>
        obtain ⟨hk3, hi3⟩ := hp
        obtain ⟨hr, hl3, hl4, hc4⟩ := fin (some .ret) W3 hk3
        exact ⟨_, _, hr, .inr ⟨rfl, .ret, hIx _ _ _ hi3 (Bk.putObj _ hl3 rfl hBl), hl4, hc4⟩⟩
      | exit id =>
        obtain ⟨hk3, hi3⟩ := hp
        obtain ⟨hr, hl3, hl4, hc4⟩ := fin (some (.exit id)) W3 hk3
        exact ⟨_, _, hr, .inr ⟨rfl, .exit id, hIx _ _ _ hi3 (Bk.putObj _ hl3 rfl hBl), hl4, hc4⟩⟩
      | goto t =>
        obtain ⟨hk3, hi3⟩ := hp
        obtain ⟨hr, hl3, hl4, hc4⟩ := fin (some (.goto t)) W3 hk3
        exact ⟨_, _, hr, .inr ⟨rfl, .goto t, hIx _ _ _ hi3 (Bk.putObj _ hl3 rfl hBl), hl4, hc4⟩⟩
      | panic ch => exact hp.elim
      | outgrown => exact hp.elim
    | ret => exact hp.elim
    | exit id => exact hp.elim
    | goto t => exact hp.elim
    | panic ch => exact hp.elim
    | outgrown => exact hp.elim
  · rintro e W2 ⟨⟨v, rfl⟩, (⟨s, W3, ⟨hi, hl, hc⟩, hd⟩ | ⟨c, hi, hl, hc⟩)⟩
    · have hk := hdoneK _ _ _ (hPre _ _ hi) hd
      exact hdone s W3 W2 hi hl hc hd (hk.same l _ hl rfl) (hC _ _ hc hk) v
    · exact hstop c W2 hi hl hc v

/-- The mark that an outermost loop lays. -/
abbrev mark (D : Nat) : Deferred := { target := .collected D, args := #[] }

/-- **A range over a function, at an outermost loop.** -/
theorem wpIn_range {σ α : Type} {g : Operand} {ps : Array Tmp} {assign body : Code} {Q : Exit → Act → World → Prop} {a : Act} {w : World}
    (hro : F.round = none) (h1 : F.depth.isSome = true → 1 ≤ n) {gf : Nat} {lb : Array Value} (hg : a.eval g = .func (.func gf) #[] lb) (hFg : F.fn gf) (eg : ∀ args w, (callFunc gf args).run P w = .ok (.enter gf args) w)
    {encs : α → Array Value} {Pre : σ → World → Prop} {Step : σ → World → α → σ → World → Prop} {Done : σ → World → World → Prop} {s0 : σ}
    (hiter : IterC F (n - 1) P gf lb encs Pre Step Done s0) (hps : ∀ x, (encs x).size = ps.size)
    (hstepK : ∀ s W x s' W1, Pre s W → Step s W x s' W1 → Kb W W1) (hdoneK : ∀ s W W', Pre s W → Done s W W' → Kb W W')
    (I : σ → World → Prop) (Ix : Code → World → Prop) (IA : α → σ → Act → World → Prop)
    (hI : ∀ s W W', I s W → Bk w.heap.size W W' → I s W') (hIx : ∀ c W W', Ix c W → Bk w.heap.size W W' → Ix c W') (hIA : ∀ x s a1 W W', IA x s a1 W → Bk w.heap.size W W' → IA x s a1 W')
    (hPre : ∀ s W, I s W → Pre s W) (h0 : I s0 w)
    (hassign : ∀ (l : Nat) s W x s' W1, I s W → Step s W x s' W1 →
      assign.wpIn (F.inRound l) (n - 1 - 1) P (Exit.then (fun a1 Wa => Kb W1 Wa ∧ IA x s' a1 Wa) (fun _ _ _ => False)) { tmps := (ps.zip (encs x)).foldl (fun t (p, v) => t.setIfInBounds p v) a.tmps, defers := [] } W1)
    (hbody : ∀ (l : Nat) x s' a1 Wb, (∃ r, Wb.heap[l]? = some (.loop r)) → IA x s' a1 Wb → body.wpIn (F.inRound l) (n - 1 - 1) P (rpost Wb (I s') Ix) a1 Wb)
    (hdone : ∀ (D : Nat) s W2 W', w.heap.size ≤ D → I s W2 → Done s W2 W' → W'.heap[D]? = some (.deferred (some [])) → ∀ W'', Bk w.heap.size W' W'' → W''.heap[D]? = some (.deferred (some [])) → Kb w W' → Q .normal { a with defers := mark D :: a.defers } W'')
    (hstop : ∀ (D : Nat) (c : Code) (W : World), w.heap.size ≤ D → Ix c W → W.heap[D]? = some (.deferred (some [])) → c.wpIn F n P Q { a with defers := mark D :: a.defers } W) :
    (Code.rangeFunc g ps assign body).wpIn F n P Q a w := by
  refine wpIn_rangeFunc ?_
  intro fn hfn
  rw [hro]
  obtain ⟨rec, hrec⟩ : ∃ rec : LoopState → Option Code → Loop, rec = fun st pe => { state := st, pending := pe, fn, tmps := a.tmps, params := ps, assign, body, defers := w.heap.size } := ⟨_, rfl⟩
  obtain ⟨W1, hW1⟩ : ∃ W1, (w.alloc (.deferred (some []))).alloc (.loop (rec .ready none)) = W1 := ⟨_, rfl⟩
  have hL1 : W1.heap[w.heap.size + 1]? = some (.loop (rec .ready none)) := by
    rw [← hW1]; have := World.alloc_heap_new (w.alloc (.deferred (some []))) (.loop (rec .ready none)); rwa [World.size_alloc] at this
  have hK1 : W1.heap[w.heap.size]? = some (.deferred (some [])) := by
    rw [← hW1]; exact (Below.heap_alloc _ _ _ (by simp)).trans (World.alloc_heap_new w _)
  have hkb1 : Kb w W1 := by rw [← hW1]; exact (Kb.alloc _ _).trans (Kb.alloc _ _)
  have hI1 : I s0 W1 := by rw [← hW1]; exact hI _ _ _ (hI _ _ _ h0 (Bk.alloc _ _ _)) (Bk.alloc _ _ _)
  refine ⟨w.heap.size + 1, [mark w.heap.size], W1, { target := .fn (.func gf) lb, args := #[.func (.yield (w.heap.size + 1)) #[] #[]] }, W1, gf,
    #[.func (.yield (w.heap.size + 1)) #[] #[]] ++ lb, W1, ?_, ?_, ?_, ?_, h1, ?_⟩
  · rw [← hW1, hrec]; exact run_enterLoop_outer _ _ _ _ _
  · simp only [resolve, hg]
    simp [go_sem]
  · intro f' hf'; simp [Target.leads] at hf'; subst hf'; exact hFg
  · simp [invoke, go_sem, eg]
  · refine range_core (n := n) hfn hps hiter hstepK hdoneK w.heap.size (w.heap.size + 1) w.heap.size (by omega) rec hrec
      (fun W => W.heap[w.heap.size]? = some (.deferred (some [])) ∧ Kb w W)
      (fun W W' h k => ⟨k.same _ _ h.1 rfl, h.2.trans k⟩)
      (fun W o h => ⟨(World.putObj_heap_other (by omega)).trans h.1, ⟨by have := h.2.size; simpa using this, fun k o' hk ho => (World.putObj_heap_other (by have := (Array.getElem?_eq_some_iff.1 hk).1; omega)).trans (h.2.same k o' hk ho)⟩⟩)
      I Ix IA hI hIx hIA hPre (hassign _) (hbody _) W1 hL1 ⟨hK1, hkb1⟩ hI1 ?_ ?_
    · intro s W2 W' hi hl hc hd hl' hc' v
      refine ⟨none, _, by have := run_endLoop (P := P) hl' (by rw [hrec]; simp); rw [hrec] at this; exact this, ?_⟩
      exact hdone _ s W2 W' (Nat.le_refl _) hi hd hc'.1 _ (Bk.putObj _ hl' rfl (by omega)) ((World.putObj_heap_other (by omega)).trans hc'.1) hc'.2
    · intro c W' hi hl hc v
      refine ⟨some c, _, by have := run_endLoop (P := P) hl (by rw [hrec]; simp); rw [hrec] at this; exact this, ?_⟩
      exact hstop _ c _ (Nat.le_refl _) (hIx _ _ _ hi (Bk.putObj _ hl rfl (by omega))) ((World.putObj_heap_other (by omega)).trans hc.1)

/-- **A range over a function within a round of loop l₀.** -/
theorem wpIn_range_in {σ α : Type} {g : Operand} {ps : Array Tmp} {assign body : Code} {Q : Exit → Act → World → Prop} {a : Act} {w : World}
    {l₀ : Nat} (hro : F.round = some l₀) (hl₀ : ∃ r₀, w.heap[l₀]? = some (.loop r₀)) (h1 : F.depth.isSome = true → 1 ≤ n) {gf : Nat} {lb : Array Value} (hg : a.eval g = .func (.func gf) #[] lb) (hFg : F.fn gf) (eg : ∀ args w, (callFunc gf args).run P w = .ok (.enter gf args) w)
    {encs : α → Array Value} {Pre : σ → World → Prop} {Step : σ → World → α → σ → World → Prop} {Done : σ → World → World → Prop} {s0 : σ}
    (hiter : IterC F (n - 1) P gf lb encs Pre Step Done s0) (hps : ∀ x, (encs x).size = ps.size)
    (hstepK : ∀ s W x s' W1, Pre s W → Step s W x s' W1 → Kb W W1) (hdoneK : ∀ s W W', Pre s W → Done s W W' → Kb W W')
    (I : σ → World → Prop) (Ix : Code → World → Prop) (IA : α → σ → Act → World → Prop)
    (hI : ∀ s W W', I s W → Bk w.heap.size W W' → I s W') (hIx : ∀ c W W', Ix c W → Bk w.heap.size W W' → Ix c W') (hIA : ∀ x s a1 W W', IA x s a1 W → Bk w.heap.size W W' → IA x s a1 W')
    (hPre : ∀ s W, I s W → Pre s W) (h0 : I s0 w)
    (hassign : ∀ (l : Nat) s W x s' W1, I s W → Step s W x s' W1 →
      assign.wpIn (F.inRound l) (n - 1 - 1) P (Exit.then (fun a1 Wa => Kb W1 Wa ∧ IA x s' a1 Wa) (fun _ _ _ => False)) { tmps := (ps.zip (encs x)).foldl (fun t (p, v) => t.setIfInBounds p v) a.tmps, defers := [] } W1)
    (hbody : ∀ (l : Nat) x s' a1 Wb, (∃ r, Wb.heap[l]? = some (.loop r)) → IA x s' a1 Wb → body.wpIn (F.inRound l) (n - 1 - 1) P (rpost Wb (I s') Ix) a1 Wb)
    (hdone : ∀ s W2 W', I s W2 → Done s W2 W' → ∀ W'', Bk w.heap.size W' W'' → Kb w W'' → Q .normal a W'')
    (hstop : ∀ (c : Code) (W : World), Ix c W → Kb w W → c.wpIn F n P Q a W) :
    (Code.rangeFunc g ps assign body).wpIn F n P Q a w := by
  refine wpIn_rangeFunc ?_
  intro fn hfn
  rw [hro]
  obtain ⟨r₀, hl₀⟩ := hl₀
  obtain ⟨rec, hrec⟩ : ∃ rec : LoopState → Option Code → Loop, rec = fun st pe => { state := st, pending := pe, fn, tmps := a.tmps, params := ps, assign, body, defers := r₀.defers } := ⟨_, rfl⟩
  obtain ⟨W1, hW1⟩ : ∃ W1, w.alloc (.loop (rec .ready none)) = W1 := ⟨_, rfl⟩
  have hL1 : W1.heap[w.heap.size]? = some (.loop (rec .ready none)) := by rw [← hW1]; exact World.alloc_heap_new w _
  have hkb1 : Kb w W1 := by rw [← hW1]; exact Kb.alloc _ _
  have hI1 : I s0 W1 := by rw [← hW1]; exact hI _ _ _ h0 (Bk.alloc _ _ _)
  have hput : ∀ (W : World) o, Kb w W → Kb w (W.putObj w.heap.size o) := fun W o h => ⟨by have := h.size; simpa using this, fun k o' hk ho => (World.putObj_heap_other (by have := (Array.getElem?_eq_some_iff.1 hk).1; omega)).trans (h.same k o' hk ho)⟩
  refine ⟨w.heap.size, [], W1, { target := .fn (.func gf) lb, args := #[.func (.yield w.heap.size) #[] #[]] }, W1, gf,
    #[.func (.yield w.heap.size) #[] #[]] ++ lb, W1, ?_, ?_, ?_, ?_, h1, ?_⟩
  · rw [← hW1, hrec]; exact run_enterLoop_inner hl₀ _ _ _ _ _
  · simp only [resolve, hg]
    simp [go_sem]
  · intro f' hf'; simp [Target.leads] at hf'; subst hf'; exact hFg
  · simp [invoke, go_sem, eg]
  · refine range_core (n := n) hfn hps hiter hstepK hdoneK w.heap.size w.heap.size r₀.defers (Nat.le_refl _) rec hrec
      (fun W => Kb w W) (fun W W' h k => h.trans k) hput
      I Ix IA hI hIx hIA hPre (hassign _) (hbody _) W1 hL1 hkb1 hI1 ?_ ?_
    · intro s W2 W' hi hl hc hd hl' hc' v
      refine ⟨none, _, by have := run_endLoop (P := P) hl' (by rw [hrec]; simp); rw [hrec] at this; exact this, ?_⟩
      exact hdone s W2 W' hi hd _ (Bk.putObj _ hl' rfl (Nat.le_refl _)) (hput _ _ hc')
    · intro c W' hi hl hc v
      refine ⟨some c, _, by have := run_endLoop (P := P) hl (by rw [hrec]; simp); rw [hrec] at this; exact this, ?_⟩
      exact hstop c _ (hIx _ _ _ hi (Bk.putObj _ hl rfl (Nat.le_refl _))) (hput _ _ hc)

/-! ### leaving a function with marks among its deferred calls -/
theorem leave_marks {fn : Func} {tmps : Array Value} {R : Ending → World → Prop} (B : Nat) : ∀ (rs : List Nat) (W : World), (∀ r ∈ rs, B ≤ r ∧ W.heap[r]? = some (.deferred (some []))) → rs.Nodup →
    (∀ W', Fr (fun k => B ≤ k ∧ W.heap[k]? = some (.deferred (some []))) W W' → (∃ v, (results fn tmps).run P W' = .ok v W' ∧ R (.returned v) W')) →
    LeavesInM F n P fn tmps R (rs.map mark) .returning W := by
  intro rs
  induction rs with
  | nil => exact fun W _ _ h => h W (Fr.refl _ _)
  | cons r rs ih =>
    intro W h hnd hR
    obtain ⟨hB, hr⟩ := h r (by simp)
    have hnd' := List.nodup_cons.1 hnd
    refine ⟨by simp, .inl ⟨r, _, rfl, run_takeDeferred hr, ?_⟩⟩
    refine ih _ (fun k hk => ?_) hnd'.2 (fun W' hf => hR W' ?_)
    · obtain ⟨a, b⟩ := h k (by simp [hk])
      exact ⟨a, (World.putObj_heap_other (by rintro rfl; exact hnd'.1 hk)).trans b⟩
    · refine Fr.trans ((Fr.refl _ W).putObj (fun _ => ⟨hB, hr⟩) _) hf (fun i hi g => ⟨g.1, ?_⟩)
      by_cases e : i = r
      · subst e; exact hr
      · rw [← World.putObj_heap_other (w := W) (r := r) (o := .deferred none) e]; exact g.2
theorem Bk.of_marks {B : Nat} {W W' : World} (h : Fr (fun k => B ≤ k ∧ W.heap[k]? = some (.deferred (some []))) W W') : Bk B W W' := Fr.mono h (fun _ _ g => ⟨g.1, _, g.2, rfl⟩)

/-! ### small words for the walk -/
theorem alloc_get (w : World) (o : Obj) (k : Nat) : (w.alloc o).heap[k]? = if k = w.heap.size then some o else w.heap[k]? := by
  show (w.heap.push o)[k]? = _
  rw [Array.getElem?_push]
theorem wp_name {c : Code} {Q : Exit → Act → World → Prop} {a : Act} {w : World} (h : ∀ w', w' = w → c.wp P Q a w') : c.wp P Q a w := h w rfl
theorem wpIn_name {c : Code} {Q : Exit → Act → World → Prop} {a : Act} {w : World} (h : ∀ w', w' = w → c.wpIn F n P Q a w') : c.wpIn F n P Q a w := h w rfl
theorem wpListIn_name {ops : Array Oper} {Q : Exit → Act → World → Prop} {l : List Oper} {a : Act} {w : World} (h : ∀ w', w' = w → wpListIn F n P ops Q l a w') : wpListIn F n P ops Q l a w := h w rfl
theorem wpList_name {ops : Array Oper} {Q : Exit → Act → World → Prop} {l : List Oper} {a : Act} {w : World} (h : ∀ w', w' = w → wpList P ops Q l a w') : wpList P ops Q l a w := h w rfl
/-- a function's end, no mark left -/
theorem leave0 {fn : Func} {R : Ending → World → Prop} {a : Act} {w : World} {v : Value} (hd : a.defers = []) (hr : (results fn a.tmps).run P w = .ok v w) (hR : R (.returned v) w) : bodyPostM F n P fn R .ret a w := by
  show LeavesInM F n P fn a.tmps R a.defers .returning w
  rw [hd]
  exact ⟨v, hr, hR⟩
theorem leave0n {fn : Func} {R : Ending → World → Prop} {a : Act} {w : World} {v : Value} (hd : a.defers = []) (hr : (results fn a.tmps).run P w = .ok v w) (hR : R (.returned v) w) : bodyPostM F n P fn R .normal a w := leave0 hd hr hR
/-- .. with marks -/
theorem leaveM {fn : Func} {R : Ending → World → Prop} {a : Act} {w : World} (B : Nat) (rs : List Nat) (hd : a.defers = rs.map mark) (hrs : ∀ r ∈ rs, B ≤ r ∧ w.heap[r]? = some (.deferred (some []))) (hnd : rs.Nodup)
    (h : ∀ W', Bk B w W' → ∃ v, (results fn a.tmps).run P W' = .ok v W' ∧ R (.returned v) W') : bodyPostM F n P fn R .ret a w := by
  show LeavesInM F n P fn a.tmps R a.defers .returning w
  rw [hd]
  exact leave_marks B rs w hrs hnd (fun W' hf => h W' (Bk.of_marks hf))
theorem leaveMn {fn : Func} {R : Ending → World → Prop} {a : Act} {w : World} (B : Nat) (rs : List Nat) (hd : a.defers = rs.map mark) (hrs : ∀ r ∈ rs, B ≤ r ∧ w.heap[r]? = some (.deferred (some []))) (hnd : rs.Nodup)
    (h : ∀ W', Bk B w W' → ∃ v, (results fn a.tmps).run P W' = .ok v W' ∧ R (.returned v) W') : bodyPostM F n P fn R .normal a w := leaveM B rs hd hrs hnd h
end Go.XL
