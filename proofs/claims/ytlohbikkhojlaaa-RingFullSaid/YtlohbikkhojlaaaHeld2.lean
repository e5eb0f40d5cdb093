/- Regions that draw their order and write what they read again: the condition that holds all along is told by stages, one more behind each operation of ps. -/
import Derived.Test.YtlohbikkhojlaaaHeld
namespace Go.XL
open Go.RowKit Go.Shelf
set_option linter.unusedVariables false
set_option linter.unusedSimpArgs false

/-- the condition of a stage -/
def pickS : List (World → Prop) → Nat → World → Prop
  | [], _, _ => True
  | p :: _, 0, w => p w
  | _ :: r, s + 1, w => pickS r s w
/-- how many of ps are behind us -/
def stage (ps : List Nat) (listed : Array Bool) : Nat := (ps.filter (fun p => listed.getD p false)).length
/-- does number j wait for number i? -/
def waitsOn (ops : Array Oper) (j i : Nat) : Bool := match ops[j]? with | some o => o.after.any (fun e => Region.binds .any e && e.on == i) | none => false
theorem stage_set_ne {ps : List Nat} {listed : Array Bool} {i : Nat} (h : i ∉ ps) : stage ps (listed.setIfInBounds i true) = stage ps listed := by
  unfold stage
  congr 1
  refine List.filter_congr fun p hp => ?_
  have hne : i ≠ p := fun e => h (e ▸ hp)
  rw [getD_set_ne false hne]
theorem stage_set_le {listed : Array Bool} {i : Nat} : ∀ ps : List Nat, stage ps listed ≤ stage ps (listed.setIfInBounds i true)
  | [] => Nat.le_refl _
  | p :: ps => by
    have ih := stage_set_le (listed := listed) (i := i) ps
    have hp : listed.getD p false = true → (listed.setIfInBounds i true).getD p false = true := fun hp => by
      by_cases e : i = p
      · subst e
        rcases Nat.lt_or_ge i listed.size with h' | h'
        · simp [h']
        · simp [Array.getElem?_eq_none h'] at hp
      · rw [getD_set_ne false e]; exact hp
    unfold stage at ih ⊢
    rw [List.filter_cons, List.filter_cons]
    split
    · rename_i h; rw [if_pos (hp h)]; simpa using ih
    · split
      · simp only [List.length_cons]; omega
      · exact ih
theorem stage_set_eq {ps : List Nat} {listed : Array Bool} {i : Nat} (hi : i ∉ ps) : ∀ j, stage ps ((listed.setIfInBounds i true).setIfInBounds j true) = stage ps (listed.setIfInBounds j true) := fun j => by
  by_cases e : j = i
  · subst e; rw [stage_set_ne hi, stage_set_ne hi]
  · rw [Array.setIfInBounds_comm _ _ (fun h => e h.symm), stage_set_ne hi]

def wpAnyP (P : Program) (ops : Array Oper) (Q : Exit → Act → World → Prop) (ps : List Nat) (S : Nat → World → Prop) : Nat → Array Bool → Act → World → Prop
  | 0, listed, a, w => Region.ready .any ops listed = [] ∧ Q .normal a w
  | fuel + 1, listed, a, w => (Region.ready .any ops listed = [] → Q .normal a w) ∧
    ∀ i ∈ Region.ready .any ops listed, wpOp P ops Q i (fun a' w' => (lastOne ops i = false → S (stage ps (listed.setIfInBounds i true)) w') ∧ wpAnyP P ops Q ps S fuel (listed.setIfInBounds i true) a' w') a w

section
variable {P : Program} {ops : Array Oper} {Q : Exit → Act → World → Prop} {ps : List Nat} {S : Nat → World → Prop}
theorem wpAny_of_P : ∀ (fuel : Nat) (listed : Array Bool) (a : Act) (w : World), wpAnyP P ops Q ps S fuel listed a w → wpAny P .any ops Q fuel listed a w
  | 0, _, _, _, h => h
  | fuel + 1, _, _, _, h => ⟨h.1, fun i hi => wpOp_mono (fun a' w' k => wpAny_of_P fuel _ a' w' k.2) (h.2 i hi)⟩

/-- what is asked of the worlds in which number i may still come up, i not being behind us -/
def Reach (ops : Array Oper) (ps : List Nat) (S : Nat → World → Prop) (i : Nat) (listed : Array Bool) (Y : World → Prop) : Prop :=
  ∀ s w, stage ps listed ≤ s → (s = stage ps listed ∨ ∃ p, p ∈ ps ∧ listed.getD p false = false ∧ waitsOn ops p i = false) → S s w → Y w

theorem wpAnyP_first {i : Nat} {oi : Oper} {v : Value} {Y : World → Prop} (hi : ops[i]? = some oi) (hips : i ∉ ps) (hsel : ∀ (j : Nat) (o : Oper) cs b, ops[j]? = some o → o.op ≠ .select cs b) (hQ : ∀ c a w, Q (.panic c) (a.put oi.dst v) w → Q (.panic c) a w) :
    ∀ (fuel : Nat) (listed : Array Bool) (a : Act) (w : World),
      (∀ j oj, ops[j]? = some oj → j ≠ i → listed.getD j true = false → (∀ e ∈ oj.after, Region.binds .any e = true → e.on ≠ i) → oi.apart ops oj = true) →
      i ∈ Region.ready .any ops listed → Reach ops ps S i listed Y → YieldsIf P ops Y oi v a → S (stage ps listed) w →
      wpAnyP P ops Q ps S fuel (listed.setIfInBounds i true) (a.put oi.dst v) w → wpAnyP P ops Q ps S (fuel + 1) listed a w := by
  intro fuel
  induction fuel with
  | zero =>
    intro listed a w _ hr hR hy hS H
    refine ⟨fun h => absurd hr (by simp [h]), fun j hj => ?_⟩
    by_cases e : j = i
    · subst e; exact hy.wpOp hi (hR _ _ (Nat.le_refl _) (.inl rfl) hS) ⟨fun _ => by rw [stage_set_ne hips]; exact hS, H⟩
    · have hm := ready_mono hj e
      rw [H.1] at hm
      simp at hm
  | succ fuel ih =>
    intro listed a w hfree hr hR hy hS H
    refine ⟨fun h => absurd hr (by simp [h]), fun j hj => ?_⟩
    by_cases e : j = i
    · subst e; exact hy.wpOp hi (hR _ _ (Nat.le_refl _) (.inl rfl) hS) ⟨fun _ => by rw [stage_set_ne hips]; exact hS, H⟩
    · have hun := (mem_ready.1 hr).1
      have hif : listed.getD i false = false := by
        rcases Nat.lt_or_ge i listed.size with h' | h'
        · simp [h'] at hun ⊢; exact hun
        · simp [Array.getElem?_eq_none h']
      have hlast : lastOne ops j = false := by
        cases hl : lastOne ops j with
        | false => rfl
        | true =>
          have := last_waits hl (ready_lt hr) (fun h => e h.symm) hj
          rw [hif] at this; cases this
      obtain ⟨hjun, oj, hoj, hall⟩ := mem_ready.1 hj
      have hnot : ∀ x ∈ oj.after, Region.binds .any x = true → x.on ≠ i := fun x hx hb heq => by
        have := hall x hx hb
        rw [heq, hif] at this; cases this
      have hnw : waitsOn ops j i = false := by
        cases hw : waitsOn ops j i with
        | false => rfl
        | true =>
          unfold waitsOn at hw
          rw [hoj] at hw
          obtain ⟨x, hx, hb⟩ := Array.any_eq_true'.1 hw
          simp only [Bool.and_eq_true, beq_iff_eq] at hb
          exact absurd hb.2 (hnot x hx hb.1)
      have hjf : listed.getD j false = false := by
        rcases Nat.lt_or_ge j listed.size with h' | h'
        · simp [h'] at hjun ⊢; exact hjun
        · simp [Array.getElem?_eq_none h']
      have hR' : Reach ops ps S i (listed.setIfInBounds j true) Y := fun s w1 hs hor hSs => by
        refine hR s w1 (Nat.le_trans (stage_set_le ps) hs) ?_ hSs
        by_cases hjp : j ∈ ps
        · exact .inr ⟨j, hjp, hjf, hnw⟩
        · rw [stage_set_ne hjp] at hor
          rcases hor with h | ⟨p, hp, hpf, hpw⟩
          · exact .inl h
          · refine .inr ⟨p, hp, ?_, hpw⟩
            have hne : j ≠ p := fun h => hjp (by rw [h]; exact hp)
            rw [getD_set_ne false hne] at hpf
            exact hpf
      have h2 := wpOp_putIf hoj (hfree j oj hoj e hjun hnot) (fun cs b => hsel i oi cs b hi) (fun cs b => hsel j oj cs b hoj) hQ hy (H.2 j (ready_mono hj e))
      have hfree' : ∀ k ok, ops[k]? = some ok → k ≠ i → (listed.setIfInBounds j true).getD k true = false → (∀ e ∈ ok.after, Region.binds .any e = true → e.on ≠ i) → oi.apart ops ok = true := fun k ok hk hki hk2 hno => by
        refine hfree k ok hk hki ?_ hno
        by_cases hjk : j = k
        · subst hjk; exact hjun
        · rw [getD_set_ne true hjk] at hk2; exact hk2
      have hst := stage_set_eq (listed := listed) hips j
      refine wpOp_mono (fun a' w' h3 => ⟨fun hl => by have := h3.2.1 hl; rw [hst] at this; exact this, ih (listed.setIfInBounds j true) a' w' hfree' (ready_mono hr (fun h => e h.symm)) hR' h3.1 (by have := h3.2.1 hlast; rw [hst] at this; exact this) ?_⟩) h2
      rw [Array.setIfInBounds_comm _ _ e]
      exact h3.2.2
end

variable {P : Program} {l : List Oper} {Q : Exit → Act → World → Prop} {ps : List Nat} {S : Nat → World → Prop}

theorem wp_heldp (ps : List Nat) (S : Nat → World → Prop) {id : Nat} {a : Act} {w : World} (hm : P.follows .mixedOrders = true) (hS : S 0 w.drew)
    (h : S 0 w.drew → wpAnyP P l.toArray (Calm Q) ps S l.length (Array.replicate l.length false) a w.drew) : (Code.region id l.toArray true).wp P Q a w :=
  Code.wp_mono Calm.imp (wp_region_any hm (by simpa using wpAny_of_P _ _ _ _ (h hS)))

theorem wpIn_heldp {F : Fence} (hF : Free F) {d : Nat} (ps : List Nat) (S : Nat → World → Prop) {id : Nat} {a : Act} {w : World} (hm : P.follows .mixedOrders = true)
    (hnd : l.all (fun o => !isDefer o.op) = true) (hS : S 0 w.drew)
    (h : S 0 w.drew → wpAnyP P l.toArray (Calm Q) ps S l.length (Array.replicate l.length false) a w.drew) : (Code.region id l.toArray true).wpIn F d P Q a w := by
  have hnd' : ∀ (i : Nat) (o : Oper), l.toArray[i]? = some o → isDefer o.op = false := fun i o hi => by
    have := List.all_eq_true.1 hnd o (List.mem_of_getElem? (by simpa using hi))
    simpa using this
  refine wpIn_region_draw fun t => wpOpsIn_mono Calm.imp _ _ _ (wpOpsIn_of_wpOps hF hnd' (by rintro ⟨_, _, h⟩; exact h.elim) _ _ _ ?_)
  simp only [Region.schedule, hm, Bool.true_or, if_true]
  refine wpAny_sound _ t _ a _ ?_
  have := wpAny_of_P _ _ _ _ (h hS)
  simpa using this

/-- what reads is taken: number i; all operations of ps that are still to come wait for it -/
theorem heldp_take (i s : Nat) {o : Oper} {v : Value} {fuel : Nat} {listed : Array Bool} {a : Act} {w : World} (ho : l[i]? = some o)
    (hB : (Region.noSelect l.toArray && Region.free .any l.toArray listed i && (Region.ready .any l.toArray listed).contains i && !ps.contains i && stage ps listed == s && ps.all (fun p => listed.getD p false || waitsOn l.toArray p i)) = true) (hy : YieldsIf P l.toArray (S s) o v a) (hS : S s w)
    (h : wpAnyP P l.toArray (Calm Q) ps S fuel (listed.setIfInBounds i true) (a.put o.dst v) w) : wpAnyP P l.toArray (Calm Q) ps S (fuel + 1) listed a w := by
  simp only [Bool.and_eq_true, beq_iff_eq, Bool.not_eq_true'] at hB
  obtain ⟨⟨⟨⟨⟨h1, h2⟩, h3⟩, h4⟩, h5⟩, h6⟩ := hB
  subst h5
  have ho' : l.toArray[i]? = some o := by simpa using ho
  refine wpAnyP_first ho' (by simpa using h4) (Region.noSelect_spec h1) (fun _ _ _ h => h) fuel listed a w (Region.free_spec ho' h2) (by simpa using h3) (fun s' w' hs hor hSs => ?_) hy hS h
  rcases hor with rfl | ⟨p, hp, hpf, hpw⟩
  · exact hSs
  · have := List.all_eq_true.1 h6 p hp
    rw [hpf, hpw] at this
    cases this
/-- .. or it yields the same in whatever world -/
theorem heldp_free (i s : Nat) {o : Oper} {v : Value} {fuel : Nat} {listed : Array Bool} {a : Act} {w : World} (ho : l[i]? = some o)
    (hB : (Region.noSelect l.toArray && Region.free .any l.toArray listed i && (Region.ready .any l.toArray listed).contains i && !ps.contains i && stage ps listed == s) = true) (hy : YieldsIf P l.toArray (fun _ => True) o v a) (hS : S s w)
    (h : wpAnyP P l.toArray (Calm Q) ps S fuel (listed.setIfInBounds i true) (a.put o.dst v) w) : wpAnyP P l.toArray (Calm Q) ps S (fuel + 1) listed a w := by
  simp only [Bool.and_eq_true, beq_iff_eq, Bool.not_eq_true'] at hB
  obtain ⟨⟨⟨⟨h1, h2⟩, h3⟩, h4⟩, h5⟩ := hB
  subst h5
  have ho' : l.toArray[i]? = some o := by simpa using ho
  exact wpAnyP_first ho' (by simpa using h4) (Region.noSelect_spec h1) (fun _ _ _ h => h) fuel listed a w (Region.free_spec ho' h2) (by simpa using h3) (fun _ _ _ _ _ => trivial) hy hS h

theorem heldp_step (i : Nat) {o : Oper} {fuel : Nat} {listed : Array Bool} {a : Act} {w : World} (ho : l[i]? = some o) (hr : Region.ready .any l.toArray listed = [i])
    (h : ∀ K' : Act → World → Prop, Shut (∀ a w, (lastOne l.toArray i = false → S (stage ps (listed.setIfInBounds i true)) w) → wpAnyP P l.toArray (Calm Q) ps S fuel (listed.setIfInBounds i true) a w → K' a w) → if Region.wanted o (yielded l.toArray a.tmps) = true then Oper.wp P o a w K' (Calm Q) else K' (a.put o.dst undef) w) :
    wpAnyP P l.toArray (Calm Q) ps S (fuel + 1) listed a w := by
  refine ⟨fun h0 => (by rw [hr] at h0; cases h0), fun j hj => ?_⟩
  rw [hr] at hj
  obtain rfl : j = i := by simpa using hj
  exact wpOp_step (by simpa using ho) (fun K' hK => h K' (fun a w h1 h2 => hK a w ⟨h1, h2⟩))

/-- what does not only read: the only one that may come up; s: the stage behind it -/
theorem heldp_call (i s : Nat) {o : Oper} {fuel : Nat} {listed : Array Bool} {a : Act} {w : World} (ho : l[i]? = some o) (hr : (Region.ready .any l.toArray listed == [i] && stage ps (listed.setIfInBounds i true) == s) = true)
    (h : ∀ K' : Act → World → Prop, Shut (∀ a w, S s w → (S s w → wpAnyP P l.toArray (Calm Q) ps S fuel (listed.setIfInBounds i true) a w) → K' a w) → if Region.wanted o (yielded l.toArray a.tmps) = true then Oper.wp P o a w K' (Calm Q) else K' (a.put o.dst undef) w) :
    wpAnyP P l.toArray (Calm Q) ps S (fuel + 1) listed a w := by
  simp only [Bool.and_eq_true, beq_iff_eq] at hr
  obtain ⟨hr, rfl⟩ := hr
  exact heldp_step i ho hr (fun K' hK => h K' (fun a w hS hW => hK a w (fun _ => hS) (hW hS)))

/-- .. and it waits for all others: S need not hold behind it -/
theorem heldp_last (i : Nat) {o : Oper} {fuel : Nat} {listed : Array Bool} {a : Act} {w : World} (ho : l[i]? = some o) (hr : Region.ready .any l.toArray listed = [i]) (hl : lastOne l.toArray i = true)
    (h : ∀ K' : Act → World → Prop, Shut (∀ a w, wpAnyP P l.toArray (Calm Q) ps S fuel (listed.setIfInBounds i true) a w → K' a w) → if Region.wanted o (yielded l.toArray a.tmps) = true then Oper.wp P o a w K' (Calm Q) else K' (a.put o.dst undef) w) :
    wpAnyP P l.toArray (Calm Q) ps S (fuel + 1) listed a w :=
  heldp_step i ho hr (fun K' hK => h K' (fun a w hW => hK a w (fun hf => (by rw [hl] at hf; cases hf)) hW))

/-- an operation that may come up, among others -/
theorem heldp_op (i s : Nat) {o : Oper} {fuel : Nat} {listed : Array Bool} {a : Act} {w : World} (ho : l[i]? = some o) (hs : (stage ps (listed.setIfInBounds i true) == s) = true)
    (h : ∀ K' : Act → World → Prop, Shut (∀ a w, S s w → (S s w → wpAnyP P l.toArray (Calm Q) ps S fuel (listed.setIfInBounds i true) a w) → K' a w) → if Region.wanted o (yielded l.toArray a.tmps) = true then Oper.wp P o a w K' (Calm Q) else K' (a.put o.dst undef) w) :
    wpOp P l.toArray (Calm Q) i (fun a' w' => (lastOne l.toArray i = false → S (stage ps (listed.setIfInBounds i true)) w') ∧ wpAnyP P l.toArray (Calm Q) ps S fuel (listed.setIfInBounds i true) a' w') a w := by
  simp only [beq_iff_eq] at hs
  subst hs
  exact wpOp_step (by simpa using ho) (fun K' hK => h K' (fun a w h1 h2 => hK a w ⟨fun _ => h1, h2 h1⟩))
/-- two may come up -/
theorem heldp_two (i j : Nat) {fuel : Nat} {listed : Array Bool} {a : Act} {w : World} (hr : (Region.ready .any l.toArray listed == [i, j]) = true)
    (h1 : wpOp P l.toArray (Calm Q) i (fun a' w' => (lastOne l.toArray i = false → S (stage ps (listed.setIfInBounds i true)) w') ∧ wpAnyP P l.toArray (Calm Q) ps S fuel (listed.setIfInBounds i true) a' w') a w)
    (h2 : wpOp P l.toArray (Calm Q) j (fun a' w' => (lastOne l.toArray j = false → S (stage ps (listed.setIfInBounds j true)) w') ∧ wpAnyP P l.toArray (Calm Q) ps S fuel (listed.setIfInBounds j true) a' w') a w) :
    wpAnyP P l.toArray (Calm Q) ps S (fuel + 1) listed a w := by
  simp only [beq_iff_eq] at hr
  refine ⟨fun h0 => (by rw [hr] at h0; cases h0), fun k hk => ?_⟩
  rw [hr] at hk
  simp only [List.mem_cons, List.not_mem_nil, or_false] at hk
  rcases hk with rfl | rfl
  · exact h1
  · exact h2
/-- three may come up -/
theorem heldp_three (i j m : Nat) {fuel : Nat} {listed : Array Bool} {a : Act} {w : World} (hr : (Region.ready .any l.toArray listed == [i, j, m]) = true)
    (h1 : wpOp P l.toArray (Calm Q) i (fun a' w' => (lastOne l.toArray i = false → S (stage ps (listed.setIfInBounds i true)) w') ∧ wpAnyP P l.toArray (Calm Q) ps S fuel (listed.setIfInBounds i true) a' w') a w)
    (h2 : wpOp P l.toArray (Calm Q) j (fun a' w' => (lastOne l.toArray j = false → S (stage ps (listed.setIfInBounds j true)) w') ∧ wpAnyP P l.toArray (Calm Q) ps S fuel (listed.setIfInBounds j true) a' w') a w)
    (h3 : wpOp P l.toArray (Calm Q) m (fun a' w' => (lastOne l.toArray m = false → S (stage ps (listed.setIfInBounds m true)) w') ∧ wpAnyP P l.toArray (Calm Q) ps S fuel (listed.setIfInBounds m true) a' w') a w) :
    wpAnyP P l.toArray (Calm Q) ps S (fuel + 1) listed a w := by
  simp only [beq_iff_eq] at hr
  refine ⟨fun h0 => (by rw [hr] at h0; cases h0), fun k hk => ?_⟩
  rw [hr] at hk
  simp only [List.mem_cons, List.not_mem_nil, or_false] at hk
  rcases hk with rfl | rfl | rfl
  · exact h1
  · exact h2
  · exact h3
theorem heldp_done {fuel : Nat} {listed : Array Bool} {a : Act} {w : World} (hr : Region.ready .any l.toArray listed = []) (h : Q .normal a w) : wpAnyP P l.toArray (Calm Q) ps S fuel listed a w := by
  cases fuel with
  | zero => exact ⟨hr, h⟩
  | succ fuel => exact ⟨fun _ => h, fun i hi => by rw [hr] at hi; simp at hi⟩
end Go.XL
