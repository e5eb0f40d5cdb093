/- Package token: drafts, May, gone, Check. -/
import Derived.Test.YtlohbikkhojlaaaVec
import Derived.Test.YtlohbikkhojlaaaVec2
import Derived.Test.YtlohbikkhojlaaaHeld
import Derived.OwnWalkIn
import Derived.IntWalk
import Derived.WalkMore
namespace Go.XL
open Go.RowKit Go.Shelf
set_option linter.unusedVariables false
/-- a draft: its ticket, site, number, what it hangs on (as it lies, as it reads), key, value -/
structure Dr where
  t : Int
  s : Int
  q : Int
  dv : Value
  dep : List Int
  key : ByteArray
  val : ByteArray
def Dr.cs (d : Dr) : List Value := [.int .i64 d.t, .int .i64 d.s, .int .i64 d.q, d.dv, .string d.key, .string d.val]
def Dr.v (d : Dr) : Value := .agg #[.int .i64 d.t, .int .i64 d.s, .int .i64 d.q, d.dv, .string d.key, .string d.val]
def tkV (own next : Int) (sv lv : Value) : Value := .agg #[.int .i64 own, .int .i64 next, sv, lv]
/-- it can be read, its numbers are no larger than numbers are -/
def DrOk (w : World) (d : Dr) : Prop := Rd w 1 d.dv d.dep.length (d.dep.map (Value.int .i64))
def SeenOk (l : List Int) : Prop := ∀ x ∈ l, 0 ≤ x ∧ x ≤ 1048576
def dmay (own : Int) (seen : List Int) (d : Dr) : Bool := (if d.s = own then decide (d.q = 0) && decide (vget seen d.s < 1048576) else decide (d.q = vget seen d.s + 1)) && vcov seen d.dep
def dgone (own : Int) (seen : List Int) (d : Dr) (ahead : List Dr) : Bool := if d.s = own then decide (d.q ≠ 0) else decide (d.q ≤ vget seen d.s) || ahead.any (fun x => decide (x.s = d.s) && decide (x.q = d.q))
theorem vget_ok {l : List Int} (h : SeenOk l) (i : Int) : 0 ≤ vget l i ∧ vget l i ≤ 1048576 := by
  unfold vget
  split
  · rename_i hi
    have hlt : i.toNat < l.length := by omega
    rw [List.getElem?_eq_getElem hlt]
    exact h _ (by simp)
  · omega
/-- drafts' cells -/
def drCells (l : List Dr) : List Value := l.flatMap Dr.cs
theorem drCells_len (l : List Dr) : (drCells l).length = l.length * 6 := by
  induction l with
  | nil => rfl
  | cons x r ih => simp only [drCells, List.flatMap_cons, List.length_append, List.length_cons, Dr.cs, List.length_nil] at *; omega
theorem drCells_get (l : List Dr) (k : Nat) (x : Dr) (h : l[k]? = some x) : (drCells l)[k * 6]? = some (.int .i64 x.t) ∧ (drCells l)[k * 6 + 1]? = some (.int .i64 x.s) ∧ (drCells l)[k * 6 + 2]? = some (.int .i64 x.q) ∧
    (drCells l)[k * 6 + 3]? = some x.dv ∧ (drCells l)[k * 6 + 4]? = some (.string x.key) ∧ (drCells l)[k * 6 + 5]? = some (.string x.val) := by
  induction l generalizing k with
  | nil => simp at h
  | cons y l ih =>
    cases k with
    | zero => simp at h; subst h; simp [drCells, Dr.cs]
    | succ k =>
      have := ih k (by simpa using h)
      simpa [drCells, Dr.cs, Nat.add_mul] using this
abbrev DrsAt (w : World) (v : Value) (l : List Dr) : Prop := Rd w 6 v l.length (drCells l)
theorem drs_cells {w : World} {v : Value} {l : List Dr} (h : DrsAt w v l) {k : Nat} {x : Dr} (hx : l[k]? = some x) : ∃ g off cap, v = .slice (some ⟨g, off, none⟩) l.length cap ∧
    w.cell? ⟨g, off + k * 6, none⟩ = some (.int .i64 x.t) ∧ w.cell? ⟨g, off + k * 6 + 1, none⟩ = some (.int .i64 x.s) ∧ w.cell? ⟨g, off + k * 6 + 2, none⟩ = some (.int .i64 x.q) ∧
    w.cell? ⟨g, off + k * 6 + 3, none⟩ = some x.dv ∧ w.cell? ⟨g, off + k * 6 + 4, none⟩ = some (.string x.key) ∧ w.cell? ⟨g, off + k * 6 + 5, none⟩ = some (.string x.val) := by
  have hlt := (List.getElem?_eq_some_iff.1 hx).1
  obtain ⟨g, off, cap, rfl, _, _, hc⟩ := Rd.form h (by omega)
  obtain ⟨h0, h1, h2, h3, h4, h5⟩ := drCells_get l k x hx
  refine ⟨g, off, cap, rfl, hc _ _ h0, ?_, ?_, ?_, ?_, ?_⟩
  · have := hc _ _ h1; rwa [← Nat.add_assoc] at this
  · have := hc _ _ h2; rwa [← Nat.add_assoc] at this
  · have := hc _ _ h3; rwa [← Nat.add_assoc] at this
  · have := hc _ _ h4; rwa [← Nat.add_assoc] at this
  · have := hc _ _ h5; rwa [← Nat.add_assoc] at this
end Go.XL
namespace Go.Proofs.Ytlohbikkhojlaaa
open Go.RowKit Go.Shelf Go.XL
set_option linter.unusedVariables false
set_option linter.unusedSimpArgs false
attribute [local go_sem] Oper.semAt_some

set_option maxHeartbeats 1000000 in
theorem tMay (own next : Int) (sv lv : Value) (seen : List Int) (d : Dr) (w : World) (hs : IntsAt w sv seen) (hd : DrOk w d) (ho : SeenOk seen) :
    Calls Try.prog 29 #[tkV own next sv lv, d.v] w fun e w' => e = .returned (.bool (dmay own seen d)) ∧ Fr no w w' := by
  obtain ⟨t, s, q, dv, dep, key, val⟩ := d
  obtain ⟨so, sc, rfl, _, _⟩ := hs.cap
  obtain ⟨dO, dc, hdv, _, _⟩ := Rd.cap hd
  dsimp only at hdv
  subst hdv
  have hg := vget_ok ho s
  obtain ⟨G, hG⟩ : ∃ G, vget seen s = G := ⟨_, rfl⟩
  have hf : ∀ (c1 c2 c3 : Obj), Fr no w (((w.alloc c1).alloc c2).alloc c3) := fun c1 c2 c3 => (((Fr.refl no w).alloc _).alloc _).alloc _
  have Hget := Lib.hid (fun (w' : World) (hf : Fr no w w') => vec_get _ seen s w' (hs.fr hf (fun _ _ _ f => f)))
  have Hcov := Lib.hid (fun (w' : World) (hf : Fr no w w') => vec_covers _ _ seen dep w' (hs.fr hf (fun _ _ _ f => f)) (Rd.fr hd hf (fun _ _ _ f => f)))
  have Hf := Lib.hid hf
  have hm : ∀ b, (if s = own then decide (q = 0) && decide (G < 1048576) else decide (q = G + 1)) = b → Hid (dmay own seen ⟨t, s, q, .slice dO dep.length dc, dep, key, val⟩ = (b && vcov seen dep)) := fun b h => Lib.hid (by rw [dmay]; dsimp only; rw [hG, h])
  rw [hG] at hg
  clear hs hd ho hf
  unfold tkV Dr.v
  go_enter Try.func29, Try.ntmps29
  go_wp2_with fail
  refine (Hget.out _ (Hf.out _ _ _)).mono ?_
  rw [hG]
  rintro e w' ⟨rfl, rfl⟩
  have hadd : IntKind.i64.wrap (G + 1) = G + 1 := IntWalk.i64_in _ (by omega)
  clear hG Hget
  by_cases hso : s = own
  · subst hso
    by_cases hq : q = 0
    · by_cases hl : G < 1048576
      · have R := hm true (by simp [hq, hl])
        clear hm
        subst hq
        go_wp2_with fail
        refine (Hcov.out _ (Hf.out _ _ _)).mono ?_
        rintro e w' ⟨rfl, rfl⟩
        go_wp2
        go_ret
        rw [R.out]
        exact ⟨by simp, Hf.out _ _ _⟩
      · have R := hm false (by simp [hq, hl])
        clear hm
        subst hq
        go_wp2
        go_ret
        rw [R.out]
        exact ⟨by simp, Hf.out _ _ _⟩
    · have R := hm false (by simp [hq])
      clear hm
      go_wp2
      go_ret
      rw [R.out]
      exact ⟨by simp, Hf.out _ _ _⟩
  · by_cases hq : q = G + 1
    · have R := hm true (by simp [hso, hq])
      clear hm
      go_wp2_with fail
      refine (Hcov.out _ (Hf.out _ _ _)).mono ?_
      rintro e w' ⟨rfl, rfl⟩
      go_wp2
      go_ret
      rw [R.out]
      exact ⟨by simp, Hf.out _ _ _⟩
    · have R := hm false (by simp [hso, hq])
      clear hm
      go_wp2
      go_ret
      rw [R.out]
      exact ⟨by simp, Hf.out _ _ _⟩

theorem tGone1 (x : Dr) (b : Nat) (s q : Int) (c2 c3 c4 : Value) (w : World) (h : w.heap[b]? = some (.cells #[.int .i64 s, .int .i64 q, c2, c3, c4] 32 (0, 0))) :
    Calls Try.prog 63 #[x.v, .pointer (some ⟨b, 0, none⟩)] w fun e w' => e = .returned (.bool (decide (x.s = s) && decide (x.q = q))) ∧ Fr no w w' := by
  have hf : Fr no w (w.alloc (.cells #[.int .i64 x.t, .int .i64 x.s, .int .i64 x.q, x.dv, .string x.key, .string x.val] 34)) := (Fr.refl no w).alloc _
  have hb := hf.heap h (fun f => f)
  have c0 : (w.alloc (.cells #[.int .i64 x.t, .int .i64 x.s, .int .i64 x.q, x.dv, .string x.key, .string x.val] 34)).cell? ⟨b, 0, none⟩ = some (.int .i64 s) := cell_of_block hb rfl
  have c1 : (w.alloc (.cells #[.int .i64 x.t, .int .i64 x.s, .int .i64 x.q, x.dv, .string x.key, .string x.val] 34)).cell? ⟨b, 1, none⟩ = some (.int .i64 q) := cell_of_block hb rfl
  have HF := Lib.hid hf
  obtain ⟨xt, xs, xq, xd, xe, xk, xv⟩ := x
  dsimp only at *
  clear h hb hf
  unfold Dr.v
  by_cases h1 : xs = s
  · subst h1
    by_cases h2 : xq = q
    · subst h2
      go_enter Try.func63, Try.ntmps63
      go_wp2
      go_ret
      exact ⟨by simp, HF.out⟩
    · go_enter Try.func63, Try.ntmps63
      go_wp2
      go_ret
      exact ⟨by simp [h2], HF.out⟩
  · go_enter Try.func63, Try.ntmps63
    go_wp2
    go_ret
    exact ⟨by simp [h1], HF.out⟩

theorem tIndex (lv : Value) (l : List Dr) (b : Nat) (s q : Int) (c2 c3 c4 : Value) (w : World) (hl : DrsAt w lv l) (h : w.heap[b]? = some (.cells #[.int .i64 s, .int .i64 q, c2, c3, c4] 32 (0, 0))) :
    Calls Try.prog 65 #[lv, .func (.func 63) #[] #[.pointer (some ⟨b, 0, none⟩)]] w fun e w' => ∃ r : Int, e = .returned (.int .i64 r) ∧ decide (0 ≤ r) = l.any (fun x => decide (x.s = s) && decide (x.q = q)) ∧ Fr no w w' := by
  obtain ⟨ao, cap, rfl, hcap, hmx⟩ := hl.cap
  have Hl := Lib.hid hl
  have H := Lib.hid h
  clear hl h
  generalize hn : l.length = n at *
  have Hn := Lib.hid hn
  clear hn
  go_enter Try.func65, Try.ntmps65
  go_wp2_with fail
  go_loopw [8] (fun iv wr => ∃ i : Nat, i ≤ n ∧ iv = .int .i64 i ∧ Hid ((l.take i).any (fun x => decide (x.s = s) && decide (x.q = q)) = false) ∧ Hid (Fr no w wr)) (fun iv _ => n - (intOf iv).toNat)
  case atStart => exact ⟨0, Nat.zero_le _, rfl, Lib.hid rfl, Lib.hid (Fr.refl _ _)⟩
  case round =>
    obtain ⟨i, hi, rfl, hA, hF⟩ := hrel
    generalize wr = W at *
    by_cases hlt : i < n
    · obtain ⟨x, hxk⟩ : ∃ x, l[i]? = some x := ⟨l[i]'(by rw [Hn.out]; exact hlt), by simp⟩
      obtain ⟨g, off, c', he, h0, h1, h2, h3, h4, h5⟩ := drs_cells (w := W) (v := .slice ao n cap) (l := l) (by have := Hl.out.fr hF.out (fun _ _ _ f => f); rwa [← Hn.out] at this ⊢) hxk
      rw [Hn.out] at he
      cases he
      have htk : l.take (i + 1) = l.take i ++ [x] := by rw [List.take_add_one, hxk]; simp
      have hg := tGone1 x b s q c2 c3 c4 W (hF.out.heap H.out (fun f => f))
      have Hg := Lib.hid hg
      have Htk := Lib.hid htk
      have Hmem := Lib.hid (List.mem_of_getElem? hxk)
      clear hg htk hxk
      obtain ⟨xt, xs, xq, xd, xe, xk, xv⟩ := x
      dsimp only at h0 h1 h2 h3 h4 h5
      unfold Dr.v at Hg
      dsimp only at Hg
      go_wp2_with fail
      refine Hg.out.mono ?_
      rintro e w2 ⟨rfl, hf⟩
      cases hb : (decide (xs = s) && decide (xq = q))
      · have hA2 : Hid ((l.take (i + 1)).any (fun x => decide (x.s = s) && decide (x.q = q)) = false) := Lib.hid (by rw [Htk.out, List.any_append, hA.out]; simpa using hb)
        have hF2 := Lib.hid (hF.out.trans' hf)
        clear hf hF hA hb Hg
        go_wp2
        go_roundw
        case rel => exact ⟨i + 1, by omega, by go_num, hA2, hF2⟩
        case measure => simp [intOf]; omega
      · have hany : l.any (fun x => decide (x.s = s) && decide (x.q = q)) = true := List.any_eq_true.2 ⟨_, Hmem.out, hb⟩
        have Hany := Lib.hid hany
        have hF2 := Lib.hid (hF.out.trans' hf)
        clear hf hF hA hb Hg hany
        go_wp2
        go_ret
        exact ⟨_, rfl, by rw [Hany.out]; simp, hF2.out⟩
    · obtain rfl : i = n := by omega
      rw [List.take_of_length_le (by rw [Hn.out]; exact Nat.le_refl _)] at hA
      go_wp2
      go_ret
      exact ⟨_, rfl, by rw [hA.out]; decide, hF.out⟩

theorem tContains (lv : Value) (l : List Dr) (b : Nat) (s q : Int) (c2 c3 c4 : Value) (w : World) (hl : DrsAt w lv l) (h : w.heap[b]? = some (.cells #[.int .i64 s, .int .i64 q, c2, c3, c4] 32 (0, 0))) :
    Calls Try.prog 62 #[lv, .func (.func 63) #[] #[.pointer (some ⟨b, 0, none⟩)]] w fun e w' => e = .returned (.bool (l.any (fun x => decide (x.s = s) && decide (x.q = q)))) ∧ Fr no w w' := by
  have hi := tIndex lv l b s q c2 c3 c4 w hl h
  have Hi := Lib.hid hi
  obtain ⟨ao, cap, rfl, hcap, hmx⟩ := hl.cap
  clear hl h hi
  go_enter Try.func62, Try.ntmps62
  go_wp2_with fail
  refine Hi.out.mono ?_
  rintro e w2 ⟨r, rfl, hr, hf⟩
  have Hr := Lib.hid hr
  have HF := Lib.hid hf
  clear hf hr Hi
  go_wp2
  go_ret
  rw [← Hr.out]
  exact ⟨rfl, HF.out⟩

set_option maxHeartbeats 1000000 in
theorem tGone (own next : Int) (sv lv : Value) (seen : List Int) (d : Dr) (av : Value) (ahead : List Dr) (w : World) (hs : IntsAt w sv seen) (hd : DrOk w d) (ha : DrsAt w av ahead) :
    Calls Try.prog 51 #[tkV own next sv lv, d.v, av] w fun e w' => e = .returned (.bool (dgone own seen d ahead)) ∧ Fr no w w' := by
  obtain ⟨t, s, q, dv, dep, key, val⟩ := d
  obtain ⟨so, sc, rfl, _, _⟩ := hs.cap
  obtain ⟨ao, ac, rfl, _, _⟩ := ha.cap
  obtain ⟨dO, dc, hdv, _, _⟩ := Rd.cap hd
  dsimp only at hdv
  subst hdv
  clear hd
  have hf3 : ∀ (c1 c2 c3 : Obj), Fr no w (((w.alloc c1).alloc c2).alloc c3) := fun c1 c2 c3 => (((Fr.refl no w).alloc _).alloc _).alloc _
  have Hf := Lib.hid hf3
  have Hget := Lib.hid (fun (w' : World) (hf : Fr no w w') => vec_get _ seen s w' (hs.fr hf (fun _ _ _ f => f)))
  have Hcon := Lib.hid (fun (w' : World) (hf : Fr no w w') (b : Nat) (h : w'.heap[b]? = some (.cells #[.int .i64 s, .int .i64 q, .slice dO dep.length dc, .string key, .string val] 32 (0, 0))) => tContains _ ahead b s q _ _ _ w' (Rd.fr ha hf (fun _ _ _ f => f)) h)
  have hm : ∀ b, (if s = own then decide (q ≠ 0) else decide (q ≤ vget seen s) || ahead.any (fun x => decide (x.s = s) && decide (x.q = q))) = b → Hid (dgone own seen ⟨t, s, q, .slice dO dep.length dc, dep, key, val⟩ ahead = b) := fun b h => Lib.hid h
  clear hs ha hf3
  unfold tkV Dr.v
  dsimp only
  generalize ahead.length = n at *
  generalize seen.length = sn at *
  generalize dep.length = dn at *
  by_cases hso : s = own
  · subst hso
    have R := hm (decide (q ≠ 0)) (if_pos rfl)
    clear hm
    go_enter Try.func51, Try.ntmps51
    go_wp2
    go_ret
    rw [R.out]
    exact ⟨by by_cases hq : q = 0 <;> simp [hq], Hf.out _ _ _⟩
  · have R := hm _ (if_neg hso)
    clear hm
    go_enter Try.func51, Try.ntmps51
    go_wp2_with fail
    refine wp_name ?_
    intro W3 hW3
    obtain ⟨G, hG⟩ : ∃ G, vget seen s = G := ⟨_, rfl⟩
    have hf4 : Fr no w W3.drew := Fr.trans' (by rw [hW3]; exact Hf.out _ _ _) ((Fr.refl no W3).drewN 1)
    have b2 : W3.drew.heap[w.heap.size + 1 + 1]? = some (.cells #[.int .i64 s, .int .i64 q, .slice dO dn dc, .string key, .string val] 32 (0, 0)) :=
      ((Fr.refl no W3).drewN 1).heap (by rw [hW3]; simp only [alloc_get, World.size_alloc, Nat.add_assoc]; simp) (fun f => f)
    have b0 : W3.drew.heap[w.heap.size]? = some (.cells #[.int .i64 own, .int .i64 next, .slice so sn sc, lv] 43 (0, 0)) :=
      ((Fr.refl no W3).drewN 1).heap (by rw [hW3]; simp only [alloc_get, World.size_alloc, Nat.add_assoc]; simp) (fun f => f)
    have z0 : W3.drew.cell? ⟨w.heap.size + 1 + 1, 0, none⟩ = some (.int .i64 s) := cell_of_block b2 rfl
    have z1 : W3.drew.cell? ⟨w.heap.size + 1 + 1, 1, none⟩ = some (.int .i64 q) := cell_of_block b2 rfl
    have z2 : W3.drew.cell? ⟨w.heap.size, 2, none⟩ = some (.slice so sn sc) := cell_of_block b0 rfl
    have HF4 := Lib.hid hf4
    have B2 := Lib.hid b2
    rw [hG] at R
    clear hW3 hf4 b2 b0
    by_cases hle : q ≤ G
    · rw [decide_eq_true hle, Bool.true_or] at R
      refine wp_held (fun w' => w'.cell? ⟨w.heap.size + 1 + 1, 0, none⟩ = some (.int .i64 s) ∧ w'.cell? ⟨w.heap.size + 1 + 1, 1, none⟩ = some (.int .i64 q) ∧ w'.cell? ⟨w.heap.size, 2, none⟩ = some (.slice so sn sc)) (by kernel_rfl) ?_ (fun hHeld => ?_)
      · exact ⟨z0, z1, z2⟩
      refine held_take (v := ?_) 0 rfl (by kernel_rfl) (.inl ⟨by rfl, ?_⟩) hHeld ?_
      rotate_left
      · intro w hSw; (try dsimp only at hSw); first | (go_simp; done) | (go_simp; with_reducible rfl)
      try simp only [Act.put, List.setIfInBounds_toArray, List.set_cons_zero, List.set_cons_succ]
      refine held_take (v := ?_) 1 rfl (by kernel_rfl) (.inl ⟨by rfl, ?_⟩) hHeld ?_
      rotate_left
      · intro w hSw; (try dsimp only at hSw); first | (go_simp; done) | (go_simp; with_reducible rfl)
      try simp only [Act.put, List.setIfInBounds_toArray, List.set_cons_zero, List.set_cons_succ]
      refine held_take (v := ?_) 2 rfl (by kernel_rfl) (.inl ⟨by rfl, ?_⟩) hHeld ?_
      rotate_left
      · intro w hSw; (try dsimp only at hSw); first | (go_simp; done) | (go_simp; with_reducible rfl)
      try simp only [Act.put, List.setIfInBounds_toArray, List.set_cons_zero, List.set_cons_succ]
      refine held_take (v := ?_) 3 rfl (by kernel_rfl) (.inl ⟨by rfl, ?_⟩) hHeld ?_
      rotate_left
      · intro w hSw; (try dsimp only at hSw); first | (go_simp; done) | (go_simp; with_reducible rfl)
      try simp only [Act.put, List.setIfInBounds_toArray, List.set_cons_zero, List.set_cons_succ]
      refine held_take (v := ?_) 4 rfl (by kernel_rfl) (.inl ⟨by rfl, ?_⟩) hHeld ?_
      rotate_left
      · intro w hSw; (try dsimp only at hSw); first | (go_simp; done) | (go_simp; with_reducible rfl)
      try simp only [Act.put, List.setIfInBounds_toArray, List.set_cons_zero, List.set_cons_succ]
      refine held_take (v := ?_) 5 rfl (by kernel_rfl) (.inl ⟨by rfl, ?_⟩) hHeld ?_
      rotate_left
      · intro w hSw; (try dsimp only at hSw); first | (go_simp; done) | (go_simp; with_reducible rfl)
      try simp only [Act.put, List.setIfInBounds_toArray, List.set_cons_zero, List.set_cons_succ]
      refine held_call 6 rfl (by kernel_rfl) (fun K hK => ?_)
      go_simp
      go_at_call 47; refine (Hget.out _ HF4.out).mono ?_; rw [hG]; rintro e w' ⟨rfl, rfl⟩
      refine hK.out _ _ ?_ (fun hHeld' => ?_)
      · first | exact ⟨z0, z1, z2⟩ | exact S5.out
      clear hK K hHeld
      have hHeld := hHeld'
      clear hHeld'
      try simp only [Act.put, List.setIfInBounds_toArray, List.set_cons_zero, List.set_cons_succ]
      refine held_take (v := ?_) 7 rfl (by kernel_rfl) (.inl ⟨by rfl, ?_⟩) hHeld ?_
      rotate_left
      · intro w hSw; (try dsimp only at hSw); first | (go_simp; done) | (go_simp; with_reducible rfl)
      try simp only [Act.put, List.setIfInBounds_toArray, List.set_cons_zero, List.set_cons_succ]
      refine held_take (v := ?_) 8 rfl (by kernel_rfl) (.inl ⟨by rfl, ?_⟩) hHeld ?_
      rotate_left
      · intro w hSw; (try dsimp only at hSw); first | (go_simp; done) | (go_simp; with_reducible rfl)
      try simp only [Act.put, List.setIfInBounds_toArray, List.set_cons_zero, List.set_cons_succ]
      refine held_take 9 rfl (by kernel_rfl) (.inr ⟨by rfl, rfl⟩) hHeld ?_
      try simp only [Act.put, List.setIfInBounds_toArray, List.set_cons_zero, List.set_cons_succ]
      refine held_take 10 rfl (by kernel_rfl) (.inr ⟨by rfl, rfl⟩) hHeld ?_
      try simp only [Act.put, List.setIfInBounds_toArray, List.set_cons_zero, List.set_cons_succ]
      refine held_take 11 rfl (by kernel_rfl) (.inr ⟨by rfl, rfl⟩) hHeld ?_
      try simp only [Act.put, List.setIfInBounds_toArray, List.set_cons_zero, List.set_cons_succ]
      refine held_take (v := ?_) 12 rfl (by kernel_rfl) (.inl ⟨by rfl, ?_⟩) hHeld ?_
      rotate_left
      · intro w hSw; (try dsimp only at hSw); first | (go_simp; done) | (go_simp; with_reducible rfl)
      try simp only [Act.put, List.setIfInBounds_toArray, List.set_cons_zero, List.set_cons_succ]
      refine held_take (v := ?_) 13 rfl (by kernel_rfl) (.inl ⟨by rfl, ?_⟩) hHeld ?_
      rotate_left
      · intro w hSw; (try dsimp only at hSw); first | (go_simp; done) | (go_simp; with_reducible rfl)
      try simp only [Act.put, List.setIfInBounds_toArray, List.set_cons_zero, List.set_cons_succ]
      refine held_done (by kernel_rfl) ?_
      try clear hHeld
      clear z0 z1 z2
      go_wp2
      go_ret
      rw [R.out]
      exact ⟨rfl, HF4.out⟩
    · rw [decide_eq_false hle, Bool.false_or] at R
      refine wp_held (fun w' => w'.cell? ⟨w.heap.size + 1 + 1, 0, none⟩ = some (.int .i64 s) ∧ w'.cell? ⟨w.heap.size + 1 + 1, 1, none⟩ = some (.int .i64 q) ∧ w'.cell? ⟨w.heap.size, 2, none⟩ = some (.slice so sn sc)) (by kernel_rfl) ?_ (fun hHeld => ?_)
      · exact ⟨z0, z1, z2⟩
      refine held_take (v := ?_) 0 rfl (by kernel_rfl) (.inl ⟨by rfl, ?_⟩) hHeld ?_
      rotate_left
      · intro w hSw; (try dsimp only at hSw); first | (go_simp; done) | (go_simp; with_reducible rfl)
      try simp only [Act.put, List.setIfInBounds_toArray, List.set_cons_zero, List.set_cons_succ]
      refine held_take (v := ?_) 1 rfl (by kernel_rfl) (.inl ⟨by rfl, ?_⟩) hHeld ?_
      rotate_left
      · intro w hSw; (try dsimp only at hSw); first | (go_simp; done) | (go_simp; with_reducible rfl)
      try simp only [Act.put, List.setIfInBounds_toArray, List.set_cons_zero, List.set_cons_succ]
      refine held_take (v := ?_) 2 rfl (by kernel_rfl) (.inl ⟨by rfl, ?_⟩) hHeld ?_
      rotate_left
      · intro w hSw; (try dsimp only at hSw); first | (go_simp; done) | (go_simp; with_reducible rfl)
      try simp only [Act.put, List.setIfInBounds_toArray, List.set_cons_zero, List.set_cons_succ]
      refine held_take (v := ?_) 3 rfl (by kernel_rfl) (.inl ⟨by rfl, ?_⟩) hHeld ?_
      rotate_left
      · intro w hSw; (try dsimp only at hSw); first | (go_simp; done) | (go_simp; with_reducible rfl)
      try simp only [Act.put, List.setIfInBounds_toArray, List.set_cons_zero, List.set_cons_succ]
      refine held_take (v := ?_) 4 rfl (by kernel_rfl) (.inl ⟨by rfl, ?_⟩) hHeld ?_
      rotate_left
      · intro w hSw; (try dsimp only at hSw); first | (go_simp; done) | (go_simp; with_reducible rfl)
      try simp only [Act.put, List.setIfInBounds_toArray, List.set_cons_zero, List.set_cons_succ]
      refine held_take (v := ?_) 5 rfl (by kernel_rfl) (.inl ⟨by rfl, ?_⟩) hHeld ?_
      rotate_left
      · intro w hSw; (try dsimp only at hSw); first | (go_simp; done) | (go_simp; with_reducible rfl)
      try simp only [Act.put, List.setIfInBounds_toArray, List.set_cons_zero, List.set_cons_succ]
      refine held_call 6 rfl (by kernel_rfl) (fun K hK => ?_)
      go_simp
      go_at_call 47; refine (Hget.out _ HF4.out).mono ?_; rw [hG]; rintro e w' ⟨rfl, rfl⟩
      refine hK.out _ _ ?_ (fun hHeld' => ?_)
      · first | exact ⟨z0, z1, z2⟩ | exact S5.out
      clear hK K hHeld
      have hHeld := hHeld'
      clear hHeld'
      try simp only [Act.put, List.setIfInBounds_toArray, List.set_cons_zero, List.set_cons_succ]
      refine held_take (v := ?_) 7 rfl (by kernel_rfl) (.inl ⟨by rfl, ?_⟩) hHeld ?_
      rotate_left
      · intro w hSw; (try dsimp only at hSw); first | (go_simp; done) | (go_simp; with_reducible rfl)
      try simp only [Act.put, List.setIfInBounds_toArray, List.set_cons_zero, List.set_cons_succ]
      refine held_take (v := ?_) 8 rfl (by kernel_rfl) (.inl ⟨by rfl, ?_⟩) hHeld ?_
      rotate_left
      · intro w hSw; (try dsimp only at hSw); first | (go_simp; done) | (go_simp; with_reducible rfl)
      try simp only [Act.put, List.setIfInBounds_toArray, List.set_cons_zero, List.set_cons_succ]
      refine held_take (v := ?_) 9 rfl (by kernel_rfl) (.inl ⟨by rfl, ?_⟩) hHeld ?_
      rotate_left
      · intro w hSw; (try dsimp only at hSw); first | (go_simp; done) | (go_simp; with_reducible rfl)
      try simp only [Act.put, List.setIfInBounds_toArray, List.set_cons_zero, List.set_cons_succ]
      refine held_call 10 rfl (by kernel_rfl) (fun K hK => ?_)
      go_simp
      skip
      refine hK.out _ _ ?_ (fun hHeld' => ?_)
      · first | exact ⟨z0, z1, z2⟩ | exact S5.out
      clear hK K hHeld
      have hHeld := hHeld'
      clear hHeld'
      try simp only [Act.put, List.setIfInBounds_toArray, List.set_cons_zero, List.set_cons_succ]
      refine held_call 11 rfl (by kernel_rfl) (fun K hK => ?_)
      go_simp
      go_at_call 62; refine (Hcon.out _ HF4.out _ B2.out).mono ?_; rw [← R.out]; rintro e w5 ⟨rfl, hf5⟩; have HF5 := Lib.hid (HF4.out.trans' hf5); have S5 := Lib.hid (And.intro (hf5.cell z0 (fun f => f)) (And.intro (hf5.cell z1 (fun f => f)) (hf5.cell z2 (fun f => f)))); clear hf5
      refine hK.out _ _ ?_ (fun hHeld' => ?_)
      · first | exact ⟨z0, z1, z2⟩ | exact S5.out
      clear hK K hHeld
      have hHeld := hHeld'
      clear hHeld'
      try simp only [Act.put, List.setIfInBounds_toArray, List.set_cons_zero, List.set_cons_succ]
      refine held_take (v := ?_) 12 rfl (by kernel_rfl) (.inl ⟨by rfl, ?_⟩) hHeld ?_
      rotate_left
      · intro w hSw; (try dsimp only at hSw); first | (go_simp; done) | (go_simp; with_reducible rfl)
      try simp only [Act.put, List.setIfInBounds_toArray, List.set_cons_zero, List.set_cons_succ]
      refine held_take (v := ?_) 13 rfl (by kernel_rfl) (.inl ⟨by rfl, ?_⟩) hHeld ?_
      rotate_left
      · intro w hSw; (try dsimp only at hSw); first | (go_simp; done) | (go_simp; with_reducible rfl)
      try simp only [Act.put, List.setIfInBounds_toArray, List.set_cons_zero, List.set_cons_succ]
      refine held_done (by kernel_rfl) ?_
      try clear hHeld
      clear z0 z1 z2
      go_wp2
      go_ret
      exact ⟨rfl, HF5.out⟩
end Go.Proofs.Ytlohbikkhojlaaa
