/- Plain laws of the token: at once, or one after the other: the same. -/
import Derived.Test.YtdddgfienicaaaaTokSq
namespace Go.XL
open Go.RowKit Go.Shelf
set_option linter.unusedVariables false
set_option linter.unusedSimpArgs false
/-- between two drafts that are handed over one after the other -/
structure SS where
  next : Int
  seen : List Int
  late : List Dr
  n : Nat
def srun (own : Int) (s : SS) (d : Dr) : AS := ago own (s.late.length + 1) ⟨s.next, s.seen, s.late ++ [d], []⟩
def sstep (own : Int) (s : SS) (d : Dr) : SS := ⟨(srun own s d).next, (srun own s d).seen, alate own (srun own s d).seen (srun own s d).left [], s.n + (srun own s d).out.length⟩
def Oth (own : Int) (d : Dr) : Prop := d.s ≠ own ∧ 0 ≤ d.s ∧ d.s < 8
theorem sstep_ok {own : Int} {D : List Dr} {s : SS} {d : Dr} (h : SpC D s.seen s.late) (hd : ∀ x ∈ D ++ [d], Oth own x) : SpQ own (D ++ [d]) (sstep own s d).seen (sstep own s d).late :=
  sp_step (own := own) (n := s.late.length + 1) (next := s.next) h hd (by simp)
theorem sfold_ok {own : Int} : ∀ (l D : List Dr) (s : SS), SpC D s.seen s.late → (∀ x ∈ D ++ l, Oth own x) → l ≠ [] → SpQ own (D ++ l) (l.foldl (sstep own) s).seen (l.foldl (sstep own) s).late
  | [], _, _, _, _, hl => absurd rfl hl
  | d :: r, D, s, h, hd, _ => by
    have h1 := sstep_ok (own := own) (d := d) h (fun x hx => hd x (by
      rcases List.mem_append.1 hx with hx | hx
      · exact List.mem_append.2 (.inl hx)
      · simp at hx; subst hx; simp))
    by_cases hr : r = []
    · subst hr; exact h1
    · have h2 := sfold_ok (own := own) r (D ++ [d]) (sstep own s d) h1.c (by rw [List.append_assoc]; exact hd) hr
      rw [List.append_assoc] at h2
      exact h2
theorem sfold_nums {own : Int} : ∀ (l D : List Dr) (s : SS), SpC D s.seen s.late → (∀ x ∈ D ++ l, Oth own x) →
    total (l.foldl (sstep own) s).seen + s.n = total s.seen + (l.foldl (sstep own) s).n ∧ (l.foldl (sstep own) s).next + s.n = s.next + (l.foldl (sstep own) s).n
  | [], _, _, _, _ => ⟨rfl, rfl⟩
  | d :: r, D, s, h, hd => by
    have hd1 : ∀ x ∈ D ++ [d], Oth own x := fun x hx => hd x (by
      rcases List.mem_append.1 hx with hx | hx
      · exact List.mem_append.2 (.inl hx)
      · simp at hx; subst hx; simp)
    have h1 := sstep_ok (own := own) (d := d) h hd1
    obtain ⟨_, _, _, f4, f5⟩ := run_facts (own := own) (s.late.length + 1) ⟨s.next, s.seen, s.late ++ [d], []⟩ (fun x hx => hd1 x (by
      rcases List.mem_append.1 hx with hx | hx
      · exact List.mem_append.2 (.inl (h.sub x hx))
      · exact List.mem_append.2 (.inr hx)))
    obtain ⟨g1, g2⟩ := sfold_nums (own := own) r (D ++ [d]) (sstep own s d) h1.c (by rw [List.append_assoc]; exact hd)
    have e1 : (sstep own s d).n = s.n + (srun own s d).out.length := rfl
    have e2 : total (sstep own s d).seen + 0 = total s.seen + (srun own s d).out.length := f4
    have e3 : (sstep own s d).next + 0 = s.next + (srun own s d).out.length := f5
    rw [List.foldl_cons]
    rw [e1] at g1 g2
    push_cast at g1 g2
    exact ⟨by omega, by omega⟩
theorem sfold_below {own : Int} {E : List Dr} {S : List Int} (hS : Shut E S) : ∀ (l D : List Dr) (s : SS), SpC D s.seen s.late → (∀ x ∈ D ++ l, Oth own x ∧ x ∈ E) → (∀ j : Nat, vget s.seen j ≤ vget S j) → ∀ j : Nat, vget (l.foldl (sstep own) s).seen j ≤ vget S j
  | [], _, _, _, _, hb => hb
  | d :: r, D, s, h, hd, hb => by
    have hd1 : ∀ x ∈ D ++ [d], Oth own x ∧ x ∈ E := fun x hx => hd x (by
      rcases List.mem_append.1 hx with hx | hx
      · exact List.mem_append.2 (.inl hx)
      · simp at hx; subst hx; simp)
    have h1 := sstep_ok (own := own) (d := d) h (fun x hx => (hd1 x hx).1)
    exact sfold_below hS r (D ++ [d]) (sstep own s d) h1.c (by rw [List.append_assoc]; exact hd) (below_run hS _ _ (fun x hx => by
      have hx2 : x ∈ D ++ [d] := by
        rcases List.mem_append.1 hx with hx | hx
        · exact List.mem_append.2 (.inl (h.sub x hx))
        · exact List.mem_append.2 (.inr hx)
      exact ⟨(hd1 x hx2).2, (hd1 x hx2).1⟩) hb)
theorem sfold_up {own : Int} : ∀ (l D : List Dr) (s : SS), SpC D s.seen s.late → (∀ x ∈ D ++ l, Oth own x) → ∀ j : Nat, vget s.seen j ≤ vget (l.foldl (sstep own) s).seen j
  | [], _, _, _, _ => fun j => Int.le_refl _
  | d :: r, D, s, h, hd => fun j => by
    have hd1 : ∀ x ∈ D ++ [d], Oth own x := fun x hx => hd x (by
      rcases List.mem_append.1 hx with hx | hx
      · exact List.mem_append.2 (.inl hx)
      · simp at hx; subst hx; simp)
    have h1 := sstep_ok (own := own) (d := d) h hd1
    obtain ⟨f1, _⟩ := run_facts (own := own) (s.late.length + 1) ⟨s.next, s.seen, s.late ++ [d], []⟩ (fun x hx => hd1 x (by
      rcases List.mem_append.1 hx with hx | hx
      · exact List.mem_append.2 (.inl (h.sub x hx))
      · exact List.mem_append.2 (.inr hx)))
    have f1' : vget s.seen j ≤ vget (sstep own s d).seen j := f1 j
    exact Int.le_trans f1' (sfold_up r (D ++ [d]) (sstep own s d) h1.c (by rw [List.append_assoc]; exact hd) j)
theorem late_len {own : Int} {D A B : List Dr} {U V : List Int} (ha : SpQ own D U A) (hb : SpQ own D V B) (hd : ∀ d ∈ D, Oth own d) (h : ∀ j : Nat, vget U j = vget V j) : A.length ≤ B.length := by
  have h1 := nodup_len (A.map Dr.key2) (B.map Dr.key2) ha.dist (fun k hk => by
    obtain ⟨x, hx, rfl⟩ := List.mem_map.1 hk
    have hxD := ha.c.sub x hx
    have hn := ha.new x hx
    rcases hb.c.cov x hxD with h2 | ⟨y, hy, e1, e2⟩
    · obtain ⟨k, hk⟩ : ∃ k : Nat, x.s = k := ⟨x.s.toNat, by have := hd x hxD; unfold Oth at this; omega⟩
      rw [hk] at hn h2
      have := h k
      omega
    · exact List.mem_map.2 ⟨y, hy, by simp [Dr.key2, e1, e2]⟩)
  simpa using h1
/-- at once, or one after the other: the same -/
theorem split_same {own next : Int} {seen : List Int} {late l : List Dr} {n : Nat} (hl : l ≠ []) (hn : late.length + l.length ≤ n) (hd : ∀ x ∈ late ++ l, Oth own x)
    (hsame : ∀ d ∈ late ++ l, ∀ x ∈ late ++ l, x.s = d.s → x.q = d.q → vcov d.dep x.dep = true) (R : AS) (hR : ago own n ⟨next, seen, late ++ l, []⟩ = R) (F : SS) (hF : l.foldl (sstep own) ⟨next, seen, late, 0⟩ = F) :
    F.n = R.out.length ∧ (vcov R.seen F.seen && vcov F.seen R.seen) = true ∧ R.next = F.next ∧ (alate own R.seen R.left []).length = F.late.length := by
  have h0 : SpC late seen late := ⟨fun x h => h, fun d h => .inr ⟨d, h, rfl, rfl⟩⟩
  have hu := sp_step (own := own) (D := late) (more := l) (late := late) (seen := seen) (next := next) (n := n) h0 hd (by simpa using hn)
  obtain ⟨_, _, _, f4, f5⟩ := run_facts (own := own) n ⟨next, seen, late ++ l, []⟩ (fun x h => hd x h)
  have hv := sfold_ok (own := own) l late ⟨next, seen, late, 0⟩ h0 hd hl
  obtain ⟨g4, g5⟩ := sfold_nums (own := own) l late ⟨next, seen, late, 0⟩ h0 hd
  have sU := spQ_shut hu (fun d h => (hd d h).1) hsame
  have sV := spQ_shut hv (fun d h => (hd d h).1) hsame
  have b1 := below_run (own := own) sV n ⟨next, seen, late ++ l, []⟩ (fun d h => ⟨h, hd d h⟩)
  have b2 := sfold_below (own := own) sU l late ⟨next, seen, late, 0⟩ h0 (fun x h => ⟨hd x h, h⟩)
  have m1 := (run_facts (own := own) n ⟨next, seen, late ++ l, []⟩ (fun x h => hd x h)).1
  have hb1 := b1 (fun j => sfold_up l late ⟨next, seen, late, 0⟩ h0 hd j)
  have hb2 := b2 m1
  rw [hR] at hu f4 f5 hb1 hb2
  rw [hF] at hv g4 g5 hb1 hb2
  have he : ∀ j : Nat, vget R.seen j = vget F.seen j := fun j => Int.le_antisymm (hb1 j) (hb2 j)
  have ht : total R.seen = total F.seen := by unfold total; simp only [he]
  have f4' : total R.seen + 0 = total seen + (R.out.length : Int) := f4
  have f5' : R.next + 0 = next + (R.out.length : Int) := f5
  have g4' : total F.seen + 0 = total seen + (F.n : Int) := g4
  have g5' : F.next + 0 = next + (F.n : Int) := g5
  refine ⟨by omega, ?_, by omega, Nat.le_antisymm (late_len hu hv hd he) (late_len hv hu hd (fun j => (he j).symm))⟩
  rw [(vcov_at _ _).2 (fun j => by rw [he]; exact Int.le_refl _), (vcov_at _ _).2 (fun j => by rw [he]; exact Int.le_refl _)]
  rfl
end Go.XL
