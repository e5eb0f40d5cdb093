/- Regions that draw their order and only read, walked once, in a frame of a round as well. -/
import Derived.Test.YtlohbikkhojlaaaLib
namespace Go.XL
open Go.RowKit Go.Shelf
set_option linter.unusedVariables false
set_option linter.unusedSimpArgs false

/-- a fence that lets everything in -/
structure Free (F : Fence) : Prop where
  fn : ∀ f, F.fn f
  depth : F.depth = none
  alive : F.alive = false
theorem free_wide : Free Fence.wide := ⟨fun _ => trivial, rfl, rfl⟩
theorem free_round {F : Fence} (h : Free F) (l : Nat) : Free (F.inRound l) := ⟨h.fn, h.depth, h.alive⟩
theorem Free.room {F : Fence} (h : Free F) (n : Nat) : F.room n := fun d hd => by rw [h.depth] at hd; cases hd
theorem Free.fenced {F : Fence} (h : Free F) (P : Program) (m : Machine) : m.fenced P F := fun g _ => ⟨fun ha => (by rw [h.alive] at ha; cases ha), .inl (h.fn _), fun f _ => h.fn f, h.room _⟩
theorem Free.steps {F : Fence} (h : Free F) {P : Program} {m m' : Machine} (hs : Steps P m m') : StepsIn (Machine.fenced P F) P m m' :=
  (StepsIn.of_steps hs).mono (fun m _ => h.fenced P m)
theorem Free.comes {F : Fence} (h : Free F) {P : Program} {m m' : Machine} {e : Ending} (hs : Comes P m m' e) : ComesIn (Machine.fenced P F) P m m' e := by
  cases e with
  | returned v => exact h.steps hs
  | panicked c => exact h.steps hs
  | outgrown => exact hs
theorem Free.calls {F : Fence} (h : Free F) {n : Nat} {P : Program} {f : FuncId} {args : Array Value} {w : World} {R : Ending → World → Prop} (hc : Calls P f args w R) : CallsIn F n P f args w R :=
  ⟨h.fn f, fun cs _ => let ⟨e, w', fr, r, s, x⟩ := hc cs; ⟨e, w', fr, r, h.comes s, x⟩⟩
theorem Free.rows {F : Fence} (h : Free F) {n : Nat} {P : Program} {row : String} {args : Array Value} {w : World} {R : Value → World → Prop} (hc : Rows P row args w R) : RowsIn F n P row args w R :=
  fun c cs _ => let ⟨v, w', r, s⟩ := hc c cs; ⟨v, w', r, h.steps s⟩
theorem calls_of_in {n : Nat} {P : Program} {f : FuncId} {args : Array Value} {w : World} {R : Ending → World → Prop} {F : Fence} (h : Free F) (hc : CallsIn F n P f args w R) : Calls P f args w R := hc.calls (fun k => h.room k)

def isDefer : Op → Bool
  | .defer _ => true
  | _ => false

theorem wpIn_of_wp_op {F : Fence} (hF : Free F) {n : Nat} {P : Program} {o : Oper} (hnd : isDefer o.op = false) {a : Act} {w : World} {K : Act → World → Prop} {Q : Exit → Act → World → Prop} (hQ : ¬ LetsOut Q)
    (h : o.wp P a w K Q) : o.wpIn F n P a w K Q := by
  have hd : ∀ c, o.op ≠ .defer c := fun c e => by rw [e] at hnd; simp [isDefer] at hnd
  refine ⟨fun f _ => hF.fn f, ?_⟩
  rw [Oper.semAt_plain F _ _ hd]
  unfold Oper.wp at h
  generalize (execOp a.eval o).run P w = r at *
  cases r with
  | ok x w' =>
    cases x <;> simp only [Oper.upon] at h <;> simp only [Oper.uponIn]
    all_goals first | exact h | exact h.elim | skip
    case enter f args =>
      exact ⟨fun hd => (by rw [hF.depth] at hd; cases hd), hF.calls h⟩
    case row r args => exact ⟨fun hd => (by rw [hF.depth] at hd; cases hd), hF.rows h⟩
  | halt x w' =>
    cases x <;> simp only [Oper.upon] at h <;> simp only [Oper.uponIn]
    all_goals first | exact h | exact h.elim

theorem wpOpsIn_of_wpOps {F : Fence} (hF : Free F) {n : Nat} {P : Program} {ops : Array Oper} (hnd : ∀ (i : Nat) (o : Oper), ops[i]? = some o → isDefer o.op = false) {Q : Exit → Act → World → Prop} (hQ : ¬ LetsOut Q) :
    ∀ l a w, wpOps P ops Q l a w → wpOpsIn F n P ops Q l a w := by
  intro l
  induction l with
  | nil => exact fun a w h => h
  | cons i rest ih =>
    intro a w h
    simp only [wpOps] at h
    simp only [wpOpsIn]
    cases ho : ops[i]? with
    | none => simp only [ho] at h; exact ih a w h
    | some o =>
      simp only [ho] at h
      dsimp only
      split
      · rename_i hw
        simp only [hw, if_true] at h
        rcases h with h | ⟨_, h⟩
        · have h2 := wpIn_of_wp_op hF (n := n) (hnd i o ho) hQ h
          refine ⟨h2.1, ?_⟩
          have h3 := h2.2
          revert h3
          generalize (o.semAt F.round a.eval).run P w = r
          intro h3
          cases r with
          | ok x w' =>
            cases x <;> simp only [Oper.uponIn] at h3 ⊢
            all_goals first | exact ih _ _ h3 | exact h3.elim | skip
            case enter f args => exact ⟨h3.1, h3.2.mono fun e w'' hr => by cases e <;> first | exact ih _ _ hr | exact hr⟩
            case row r args => exact ⟨h3.1, h3.2.mono fun v w'' hr => ih _ _ hr⟩
            case round l f t asg b => exact ⟨h3.1, h3.2.mono fun e w'' hr => by cases e <;> first | exact ih _ _ hr | exact hr⟩
          | halt x w' =>
            cases x <;> simp only [Oper.uponIn] at h3 ⊢
            all_goals first | exact h3 | exact h3.elim
        · exact absurd h hQ
      · rename_i hw
        simp only [hw] at h
        exact ⟨fun f _ => hF.fn f, ih _ _ h⟩

theorem wpOpsIn_mono {F : Fence} {n : Nat} {P : Program} {ops : Array Oper} {Q Q' : Exit → Act → World → Prop} (hq : ∀ e a w, Q e a w → Q' e a w) :
    ∀ l a w, wpOpsIn F n P ops Q l a w → wpOpsIn F n P ops Q' l a w := by
  intro l
  induction l with
  | nil => exact fun a w h => hq _ _ _ h
  | cons i rest ih =>
    intro a w h
    simp only [wpOpsIn] at h ⊢
    cases ho : ops[i]? with
    | none => simp only [ho] at h; exact ih a w h
    | some o =>
      simp only [ho] at h
      dsimp only
      split
      · rename_i hw
        simp only [hw, if_true] at h
        refine ⟨h.1, ?_⟩
        have h3 := h.2
        revert h3
        generalize (o.semAt F.round a.eval).run P w = r
        intro h3
        have hlo : LetsOut Q → LetsOut Q' := fun ⟨a, w, h⟩ => ⟨a, w, hq _ _ _ h⟩
        cases r with
        | ok x w' =>
          cases x <;> simp only [Oper.uponIn] at h3 ⊢
          all_goals first | exact ih _ _ h3 | exact h3.elim | skip
          case enter f args => exact ⟨h3.1, h3.2.mono fun e w'' hr => by cases e <;> first | exact ih _ _ hr | exact hq _ _ _ hr | exact hlo hr⟩
          case row r args => exact ⟨h3.1, h3.2.mono fun v w'' hr => ih _ _ hr⟩
          case round l f t asg b => exact ⟨h3.1, h3.2.mono fun e w'' hr => by cases e <;> first | exact ih _ _ hr | exact hq _ _ _ hr | exact hlo hr⟩
        | halt x w' =>
          cases x <;> simp only [Oper.uponIn] at h3 ⊢
          all_goals first | exact hq _ _ _ h3 | exact h3.elim
      · rename_i hw
        simp only [hw] at h
        exact ⟨h.1, ih _ _ h.2⟩

/-- **A region that draws its order and only reads: its lexical walk, in whatever frame.** -/
theorem wpIn_region_q {F : Fence} (hF : Free F) {n : Nat} {P : Program} {id : Nat} {Q : Exit → Act → World → Prop} {a : Act} {w : World} {l : List Oper} (hm : P.follows .mixedOrders = true) (hB : Region.lexB .any l.toArray = true)
    (hnd : l.all (fun o => !isDefer o.op) = true)
    (h : wpQuiet P l.toArray (fun w' => ∃ n, w' = w.drewN n) (fun a' => ∀ w', (∃ n, w' = w.drewN n) → Q .normal a' w') l a) : (Code.region id l.toArray true).wpIn F n P Q a w := by
  have hnd' : ∀ (i : Nat) (o : Oper), l.toArray[i]? = some o → isDefer o.op = false := fun i o hi => by
    have := List.all_eq_true.1 hnd o (List.mem_of_getElem? (by simpa using hi))
    simpa using this
  refine wpIn_region_draw fun t => wpOpsIn_mono (Q := fun e a w => e = .normal ∧ Q .normal a w) (fun e a w h => by obtain ⟨rfl, h⟩ := h; exact h) _ _ _ (wpOpsIn_of_wpOps hF hnd' (by rintro ⟨_, _, h, _⟩; cases h) _ _ _ ?_)
  simp only [Region.schedule, hm, Bool.true_or, if_true]
  simp only [Region.lexB, Bool.and_eq_true] at hB
  refine wpAny_sound _ t _ a _ (wpAny_of_quiet (C := fun w' => ∃ n, w' = w.drewN n) (Q := fun a' => ∀ w', (∃ n, w' = w.drewN n) → Q .normal a' w') (fun _ w' hw' h => ⟨rfl, h w' hw'⟩) _ _ _ _ ⟨1, rfl⟩ ?_)
  have := wpAnyQ_lex (C := fun w' => ∃ n, w' = w.drewN n) (md := .any) hB.1 l 0 (Array.replicate l.toArray.size false) a (by simp) (by simpa using hB.2) h
  simpa using this

/-- **A region that draws its order: first n operations that only read (in whatever order), then the others in theirs.** -/
theorem wpIn_region_tail {F : Fence} (hF : Free F) {d : Nat} {P : Program} {id : Nat} {Q : Exit → Act → World → Prop} {a : Act} {w : World} {l : List Oper} (n : Nat) (hm : P.follows .mixedOrders = true) (hB : Region.lexTailB .any l.toArray n = true)
    (hnd : l.all (fun o => !isDefer o.op) = true)
    (h : ∀ K : Act → World → Prop, (∀ a w, Q .normal a w → K a w) → wpStill P l.toArray w.drew (fun a' => wpList P l.toArray (Exit.then K (fun _ _ _ => False)) (l.drop n) a' w.drew) (l.take n) a) : (Code.region id l.toArray true).wpIn F d P Q a w := by
  have hnd' : ∀ (i : Nat) (o : Oper), l.toArray[i]? = some o → isDefer o.op = false := fun i o hi => by
    have := List.all_eq_true.1 hnd o (List.mem_of_getElem? (by simpa using hi))
    simpa using this
  obtain ⟨Q', hQ'⟩ : ∃ Q', Q' = Exit.then (Q .normal) (fun _ _ _ => False) := ⟨_, rfl⟩
  have h := h (Q .normal) (fun _ _ h => h)
  rw [← hQ'] at h
  refine wpIn_region_draw fun t => wpOpsIn_mono (Q := Q') (fun e a w h => by subst hQ'; cases e <;> first | exact h | exact h.elim) _ _ _ (wpOpsIn_of_wpOps hF hnd' (by subst hQ'; rintro ⟨_, _, h⟩; exact h.elim) _ _ _ ?_)
  simp only [Region.schedule, hm, Bool.true_or, if_true]
  refine wpAny_sound _ t _ a _ ?_
  simp only [Region.lexTailB, Bool.and_eq_true, decide_eq_true_eq] at hB
  obtain ⟨⟨⟨⟨hsel, hn⟩, hs⟩, hc⟩, hlex⟩ := hB
  have hn' : n < l.length := by simpa using hn
  have htl : (l.take n).length = n := by simp; omega
  have hdl : (l.drop n).length = l.toArray.size - n := by simp
  have inv0 : HeadInv .any l.toArray n (Array.replicate l.toArray.size false) :=
    ⟨by simp, fun j oj _ hl => (by rw [getD_replicate_false] at hl; cases hl), fun t _ ht => getD_in (by simpa using ht) (getD_replicate_false _ _)⟩
  have H := wpAnyL_lex (md := .any) (g := l.toArray.size - n) hsel hs hc hn (l.take n) 0 _ a (fun j hj => by
    have hj' : j < n := by rw [htl] at hj; exact hj
    simp [hj']) (by simpa using htl) inv0 (by rw [htl]; exact hlex) h
  have := wpAny_of_head (Q' := Q') (g := l.toArray.size - n) (fun listed a' hL => by
    have := wpAny_of_seq (md := .any) (Q' := Q') (l.drop n) n listed a' w.drew (fun j => by simp [List.getElem?_drop]) (by rw [hdl]; exact hL.1) hL.2
    rwa [hdl] at this) _ _ _ H
  rw [htl, show n + (l.toArray.size - n) = l.toArray.size by omega] at this
  exact this
end Go.XL
