/- Regions that draw their order, walked an operation at a time in an order of one's own: what reads first, calls one behind the other. -/
import Derived.Test.YtlohbikkhojlaaaQuiet
namespace Go.XL
open Go.RowKit Go.Shelf
set_option linter.unusedVariables false
set_option linter.unusedSimpArgs false

/-- the post of a region that does not panic -/
abbrev Calm (Q : Exit → Act → World → Prop) : Exit → Act → World → Prop := Exit.then (Q .normal) (fun _ _ _ => False)
theorem Calm.imp {Q : Exit → Act → World → Prop} : ∀ (e : Exit) (a : Act) (w : World), Calm Q e a w → Q e a w := fun e a w h => by
  cases e <;> first | exact h | exact (h : False).elim

/-! ### whatever order comes: S holds behind each operation but one that waits for all others -/
/-- Does number j wait for all others? -/
def lastOne (ops : Array Oper) (j : Nat) : Bool :=
  (List.range ops.size).all fun i => i == j || (match ops[j]? with | some o => o.after.any (fun e => Region.binds .any e && e.on == i) | none => false)
theorem last_waits {ops : Array Oper} {listed : Array Bool} {i j : Nat} (h : lastOne ops j = true) (hi : i < ops.size) (hij : i ≠ j) (hj : j ∈ Region.ready .any ops listed) : listed.getD i false = true := by
  obtain ⟨_, o, ho, hall⟩ := mem_ready.1 hj
  have h1 := List.all_eq_true.1 h i (by simpa using hi)
  rw [ho] at h1
  simp only [Bool.or_eq_true, beq_iff_eq, hij, false_or] at h1
  obtain ⟨e, he, hb⟩ := Array.any_eq_true'.1 h1
  simp only [Bool.and_eq_true, beq_iff_eq] at hb
  rw [← hb.2]
  exact hall e he hb.1

def wpAnyE (P : Program) (ops : Array Oper) (Q : Exit → Act → World → Prop) (S : World → Prop) : Nat → Array Bool → Act → World → Prop
  | 0, listed, a, w => Region.ready .any ops listed = [] ∧ Q .normal a w
  | fuel + 1, listed, a, w => (Region.ready .any ops listed = [] → Q .normal a w) ∧
    ∀ i ∈ Region.ready .any ops listed, wpOp P ops Q i (fun a' w' => (lastOne ops i = false → S w') ∧ wpAnyE P ops Q S fuel (listed.setIfInBounds i true) a' w') a w

section
variable {P : Program} {ops : Array Oper} {Q : Exit → Act → World → Prop} {S : World → Prop}
theorem wpAny_of_E : ∀ (fuel : Nat) (listed : Array Bool) (a : Act) (w : World), wpAnyE P ops Q S fuel listed a w → wpAny P .any ops Q fuel listed a w
  | 0, _, _, _, h => h
  | fuel + 1, _, _, _, h => ⟨h.1, fun i hi => wpOp_mono (fun a' w' k => wpAny_of_E fuel _ a' w' k.2) (h.2 i hi)⟩

theorem ready_lt {listed : Array Bool} {i : Nat} (h : i ∈ Region.ready .any ops listed) : i < ops.size := by
  obtain ⟨_, o, ho, _⟩ := mem_ready.1 h
  exact (Array.getElem?_eq_some_iff.1 ho).1

/-- what reads may be taken first -/
theorem wpAnyE_first {i : Nat} {oi : Oper} {v : Value} (hi : ops[i]? = some oi) (hsel : ∀ (j : Nat) (o : Oper) cs b, ops[j]? = some o → o.op ≠ .select cs b) (hQ : ∀ c a w, Q (.panic c) (a.put oi.dst v) w → Q (.panic c) a w) :
    ∀ (fuel : Nat) (listed : Array Bool) (a : Act) (w : World),
      (∀ j oj, ops[j]? = some oj → j ≠ i → listed.getD j true = false → (∀ e ∈ oj.after, Region.binds .any e = true → e.on ≠ i) → oi.apart ops oj = true) →
      i ∈ Region.ready .any ops listed → YieldsIf P ops S oi v a → S w →
      wpAnyE P ops Q S fuel (listed.setIfInBounds i true) (a.put oi.dst v) w → wpAnyE P ops Q S (fuel + 1) listed a w := by
  intro fuel
  induction fuel with
  | zero =>
    intro listed a w _ hr hy hS H
    refine ⟨fun h => absurd hr (by simp [h]), fun j hj => ?_⟩
    by_cases e : j = i
    · subst e; exact hy.wpOp hi hS ⟨fun _ => hS, H⟩
    · have hm := ready_mono hj e
      rw [H.1] at hm
      simp at hm
  | succ fuel ih =>
    intro listed a w hfree hr hy hS H
    refine ⟨fun h => absurd hr (by simp [h]), fun j hj => ?_⟩
    by_cases e : j = i
    · subst e; exact hy.wpOp hi hS ⟨fun _ => hS, H⟩
    · have hun := (mem_ready.1 hr).1
      have hif : listed.getD i false = false := by
        rcases Nat.lt_or_ge i listed.size with h' | h'
        · simp [h'] at hun ⊢; exact hun
        · simp [Array.getElem?_eq_none h']
      have hlast : lastOne ops j = false := by
        cases hl : lastOne ops j with
        | false => rfl
        | true =>
          have := last_waits hl (ready_lt hr) (fun h => e h.symm) hj
          rw [hif] at this; cases this
      obtain ⟨hjun, oj, hoj, hall⟩ := mem_ready.1 hj
      have hnot : ∀ x ∈ oj.after, Region.binds .any x = true → x.on ≠ i := fun x hx hb heq => by
        have := hall x hx hb
        rw [heq, hif] at this; cases this
      have h2 := wpOp_putIf hoj (hfree j oj hoj e hjun hnot) (fun cs b => hsel i oi cs b hi) (fun cs b => hsel j oj cs b hoj) hQ hy (H.2 j (ready_mono hj e))
      have hfree' : ∀ k ok, ops[k]? = some ok → k ≠ i → (listed.setIfInBounds j true).getD k true = false → (∀ e ∈ ok.after, Region.binds .any e = true → e.on ≠ i) → oi.apart ops ok = true := fun k ok hk hki hk2 hno => by
        refine hfree k ok hk hki ?_ hno
        by_cases hjk : j = k
        · subst hjk; exact hjun
        · rw [getD_set_ne true hjk] at hk2; exact hk2
      refine wpOp_mono (fun a' w' h3 => ⟨h3.2.1, ih (listed.setIfInBounds j true) a' w' hfree' (ready_mono hr (fun h => e h.symm)) h3.1 (h3.2.1 hlast) ?_⟩) h2
      rw [Array.setIfInBounds_comm _ _ e]
      exact h3.2.2
end

variable {P : Program} {l : List Oper} {Q : Exit → Act → World → Prop} {S : World → Prop}

theorem wp_held (S : World → Prop) {id : Nat} {a : Act} {w : World} (hm : P.follows .mixedOrders = true) (hS : S w.drew)
    (h : S w.drew → wpAnyE P l.toArray (Calm Q) S l.length (Array.replicate l.length false) a w.drew) : (Code.region id l.toArray true).wp P Q a w :=
  Code.wp_mono Calm.imp (wp_region_any hm (by simpa using wpAny_of_E _ _ _ _ (h hS)))

theorem wpIn_held {F : Fence} (hF : Free F) {d : Nat} (S : World → Prop) {id : Nat} {a : Act} {w : World} (hm : P.follows .mixedOrders = true)
    (hnd : l.all (fun o => !isDefer o.op) = true) (hS : S w.drew)
    (h : S w.drew → wpAnyE P l.toArray (Calm Q) S l.length (Array.replicate l.length false) a w.drew) : (Code.region id l.toArray true).wpIn F d P Q a w := by
  have hnd' : ∀ (i : Nat) (o : Oper), l.toArray[i]? = some o → isDefer o.op = false := fun i o hi => by
    have := List.all_eq_true.1 hnd o (List.mem_of_getElem? (by simpa using hi))
    simpa using this
  refine wpIn_region_draw fun t => wpOpsIn_mono Calm.imp _ _ _ (wpOpsIn_of_wpOps hF hnd' (by rintro ⟨_, _, h⟩; exact h.elim) _ _ _ ?_)
  simp only [Region.schedule, hm, Bool.true_or, if_true]
  refine wpAny_sound _ t _ a _ ?_
  have := wpAny_of_E _ _ _ _ (h hS)
  simpa using this

/-- what reads is taken: number i -/
theorem held_take (i : Nat) {o : Oper} {v : Value} {fuel : Nat} {listed : Array Bool} {a : Act} {w : World} (ho : l[i]? = some o)
    (hB : (Region.noSelect l.toArray && Region.free .any l.toArray listed i && (Region.ready .any l.toArray listed).contains i) = true) (hy : YieldsIf P l.toArray S o v a) (hS : S w)
    (h : wpAnyE P l.toArray (Calm Q) S fuel (listed.setIfInBounds i true) (a.put o.dst v) w) : wpAnyE P l.toArray (Calm Q) S (fuel + 1) listed a w := by
  simp only [Bool.and_eq_true] at hB
  have ho' : l.toArray[i]? = some o := by simpa using ho
  exact wpAnyE_first ho' (Region.noSelect_spec hB.1.1) (fun _ _ _ h => h) fuel listed a w (Region.free_spec ho' hB.1.2) (by simpa using hB.2) hy hS h

theorem held_step (i : Nat) {o : Oper} {fuel : Nat} {listed : Array Bool} {a : Act} {w : World} (ho : l[i]? = some o) (hr : Region.ready .any l.toArray listed = [i])
    (h : ∀ K' : Act → World → Prop, Shut (∀ a w, (lastOne l.toArray i = false → S w) → wpAnyE P l.toArray (Calm Q) S fuel (listed.setIfInBounds i true) a w → K' a w) → if Region.wanted o (yielded l.toArray a.tmps) = true then Oper.wp P o a w K' (Calm Q) else K' (a.put o.dst undef) w) :
    wpAnyE P l.toArray (Calm Q) S (fuel + 1) listed a w := by
  refine ⟨fun h0 => (by rw [hr] at h0; cases h0), fun j hj => ?_⟩
  rw [hr] at hj
  obtain rfl : j = i := by simpa using hj
  exact wpOp_step (by simpa using ho) (fun K' hK => h K' (fun a w h1 h2 => hK a w ⟨h1, h2⟩))

/-- what does not only read: the only one that may come up -/
theorem held_call (i : Nat) {o : Oper} {fuel : Nat} {listed : Array Bool} {a : Act} {w : World} (ho : l[i]? = some o) (hr : Region.ready .any l.toArray listed = [i])
    (h : ∀ K' : Act → World → Prop, Shut (∀ a w, S w → (S w → wpAnyE P l.toArray (Calm Q) S fuel (listed.setIfInBounds i true) a w) → K' a w) → if Region.wanted o (yielded l.toArray a.tmps) = true then Oper.wp P o a w K' (Calm Q) else K' (a.put o.dst undef) w) :
    wpAnyE P l.toArray (Calm Q) S (fuel + 1) listed a w :=
  held_step i ho hr (fun K' hK => h K' (fun a w hS hW => hK a w (fun _ => hS) (hW hS)))

/-- .. and it waits for all others: S need not hold behind it -/
theorem held_last (i : Nat) {o : Oper} {fuel : Nat} {listed : Array Bool} {a : Act} {w : World} (ho : l[i]? = some o) (hr : Region.ready .any l.toArray listed = [i]) (hl : lastOne l.toArray i = true)
    (h : ∀ K' : Act → World → Prop, Shut (∀ a w, wpAnyE P l.toArray (Calm Q) S fuel (listed.setIfInBounds i true) a w → K' a w) → if Region.wanted o (yielded l.toArray a.tmps) = true then Oper.wp P o a w K' (Calm Q) else K' (a.put o.dst undef) w) :
    wpAnyE P l.toArray (Calm Q) S (fuel + 1) listed a w :=
  held_step i ho hr (fun K' hK => h K' (fun a w hW => hK a w (fun hf => (by rw [hl] at hf; cases hf)) hW))

theorem held_done {fuel : Nat} {listed : Array Bool} {a : Act} {w : World} (hr : Region.ready .any l.toArray listed = []) (h : Q .normal a w) : wpAnyE P l.toArray (Calm Q) S fuel listed a w := by
  cases fuel with
  | zero => exact ⟨hr, h⟩
  | succ fuel => exact ⟨fun _ => h, fun i hi => by rw [hr] at hi; simp at hi⟩
/-- append, map update at the operation -/
theorem wp_append {o : Oper} {a : Act} {w w' : World} {K : Act → World → Prop} {Q : Exit → Act → World → Prop} {s x : Operand} {t : TypeId} {v u r : Value} (ho : o.op = Op.call { callee := Callee.builtin Builtin.append, args := #[s, x], argTypes := #[t, t] })
    (hs : a.eval s = v) (hx : a.eval x = u) (hrun : (Builtin.append_ #[t, t] o.type #[v, u]).run P w = .ok r w') (hK : K (a.put o.dst r) w') : Oper.wp P o a w K Q := by
  unfold Oper.wp
  simp [execOp, ho, resolve, invoke, builtin, hs, hx, hrun, Result.andThen]
  exact hK
theorem wp_mapUpdate {o : Oper} {a : Act} {w w' : World} {K : Act → World → Prop} {Q : Exit → Act → World → Prop} {m k x : Operand} {t : TypeId} {vm vk vx : Value} (ho : o.op = Op.mapUpdate t m k x)
    (hm : a.eval m = vm) (hk : a.eval k = vk) (hx : a.eval x = vx) (hrun : (Instr.mapUpdate t vm vk vx).run P w = .ok () w') (hK : K (a.put o.dst undef) w') : Oper.wp P o a w K Q := by
  unfold Oper.wp
  simp [execOp, ho, hm, hk, hx, hrun, Result.andThen]
  exact hK
theorem wp_mapEntry {o : Oper} {a : Act} {w w' : World} {K : Act → World → Prop} {Q : Exit → Act → World → Prop} {m k : Operand} {t : TypeId} {vm vk r : Value} (ho : o.op = Op.mapEntry t m k)
    (hm : a.eval m = vm) (hk : a.eval k = vk) (hrun : (Instr.mapEntry t vm vk).run P w = .ok r w') (hK : K (a.put o.dst r) w') : Oper.wp P o a w K Q := by
  unfold Oper.wp
  simp [execOp, ho, hm, hk, hrun, Result.andThen]
  exact hK
theorem wp_entryStore {o : Oper} {a : Act} {w w' : World} {K : Act → World → Prop} {Q : Exit → Act → World → Prop} {m s x : Operand} {t : TypeId} {vm vs vx : Value} (ho : o.op = Op.entryStore t m s x)
    (hm : a.eval m = vm) (hs : a.eval s = vs) (hx : a.eval x = vx) (hrun : (Instr.entryStore t vm vs vx).run P w = .ok () w') (hK : K (a.put o.dst undef) w') : Oper.wp P o a w K Q := by
  unfold Oper.wp
  simp [execOp, ho, hm, hs, hx, hrun, Result.andThen]
  exact hK
theorem exec_slice {o : Oper} {a : Act} {w : World} {t : TypeId} {s : Operand} {lo hi mx : Option Operand} {v : Value} (ho : o.op = Op.slice t s lo hi mx) (hrun : (Instr.sliceAt t (a.eval s) (lo.map a.eval) (hi.map a.eval) (mx.map a.eval)).run P w = .ok v w) : (execOp a.eval o).run P w = .ok (.value v) w := by
  simp [execOp, ho, hrun, Result.andThen]
end Go.XL
