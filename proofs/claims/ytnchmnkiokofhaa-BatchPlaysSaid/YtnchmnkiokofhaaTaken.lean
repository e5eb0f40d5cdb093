/- The contract of the law's Taken, and of batch's Clear. -/
import Derived.Test.YtnchmnkiokofhaaBatch3
namespace Go.Proofs.Ytnchmnkiokofhaa
open Go.RowKit Go.Shelf Go.XL
set_option linter.unusedVariables false
set_option linter.unusedSimpArgs false
attribute [local go_sem] Oper.semAt_some

theorem take_not_nil (x : Addr) (w : World) : (binOp .eql 44 (.func (.func 16) #[] #[.pointer (some x)]) .nilFunc).run Try.prog w = .ok (.bool false) w := by kernel_rfl

theorem taken_res (tmps : Array Value) (c1 c2 : Nat) (w : World) (v1 v2 : Value) (h1 : tmps[4]? = some (.pointer (some ⟨c1, 0, none⟩))) (h2 : tmps[5]? = some (.pointer (some ⟨c2, 0, none⟩)))
    (g1 : w.cell? ⟨c1, 0, none⟩ = some v1) (g2 : w.cell? ⟨c2, 0, none⟩ = some v2) : (results Try.f9 tmps).run Try.prog w = .ok (.tuple #[v1, v2]) w := by
  simp [results, Try.results9, go_sem, h1, h2, g1, g2]

theorem taken_none (b : Nat) (most : Int) (w : World) (hm : most ≤ 0) :
    Calls Try.prog 9 #[.pointer (some ⟨b, 0, none⟩), .int .i64 most] w fun e w' => e = .returned (.tuple #[.slice none 0 0, .bool true]) ∧ Below w.heap.size w w' := by
  refine calls_of_in (n := 4) free_wide (callsIn_of_wp_marks Try.func9 rfl trivial (wpIn_wide.2 ?_) rfl)
  simp only [Try.ntmps9, List.size_toArray, List.length_cons, List.length_nil, Nat.reduceAdd, Nat.reduceSub, Array.replicate_succ, Array.replicate_zero, List.push_toArray, List.append_toArray, List.nil_append, List.cons_append]
  have hnn := take_not_nil
  go_wp2_with (go_at_call 14; refine (take_any b _).mono ?_; rintro e w' ⟨rfl, rfl⟩)
  refine leave0 rfl (taken_res _ (w.heap.size + 1) (w.heap.size + 1 + 1) _ (.slice none 0 0) (.bool true) rfl rfl ?_ ?_) ⟨rfl, ?_⟩
  · exact cell_of_block (E := 30) (fz := (0, 0)) (cs := #[.slice none 0 0]) (by simp only [alloc_get, World.size_alloc, Nat.add_assoc]; simp) rfl
  · exact cell_of_block (E := 4) (fz := (0, 0)) (cs := #[.bool true]) (by simp only [alloc_get, World.size_alloc, Nat.add_assoc]; simp) rfl
  · exact (((((Fr.refl no w).alloc _).alloc _).alloc _).alloc _).alloc _ |>.below

/-- what holds between two rounds: i are taken, into v -/
def TnI (w : World) (b : Nat) (size room : Int) (xs : List Int) (G : Option Nat) (q : Nat) (o i : Nat) (W : World) : Prop :=
  i ≤ xs.length ∧ W.heap[w.heap.size]? = some (.cells #[.int .i64 q] 3 (0, 0)) ∧ W.heap[w.heap.size + 1]? = some (.cells #[.slice none 0 0] 30 (0, 0)) ∧ W.heap[w.heap.size + 2]? = some (.cells #[.bool false] 4 (0, 0)) ∧
  W.heap[w.heap.size + 3]? = some (.cells #[.pointer (some ⟨b, 0, none⟩)] 24 (0, 0)) ∧
  (∃ ao cap, W.heap[w.heap.size + 4]? = some (.cells #[.slice ao o cap] 30 (0, 0)) ∧ Sl W 3 1 (.slice ao o cap) o ((xs.take o).map (Value.int .i64)) ∧ (∀ g, Value.ownBlock (.slice ao o cap) = some g → w.heap.size + 5 ≤ g)) ∧
  Bat W b size room (xs.drop i) G ∧ Fr (fun k => k = b) w W

def TnX (w : World) (b : Nat) (size room : Int) (xs : List Int) (G : Option Nat) (k : Nat) (c : Code) (W : World) : Prop :=
  c = .ret ∧ W.heap[w.heap.size + 2]? = some (.cells #[.bool true] 4 (0, 0)) ∧
  (∃ ao cap, W.heap[w.heap.size + 1]? = some (.cells #[.slice ao k cap] 30 (0, 0)) ∧ Sl W 3 1 (.slice ao k cap) k ((xs.take k).map (Value.int .i64)) ∧ (∀ g, Value.ownBlock (.slice ao k cap) = some g → w.heap.size + 5 ≤ g)) ∧
  Bat W b size room (xs.drop k) G ∧ Fr (fun k => k = b) w W

theorem TnI.bk {w : World} {b : Nat} {size room : Int} {xs : List Int} {G : Option Nat} {q o i : Nat} {W W' : World} {B : Nat} (h : TnI w b size room xs G q o i W) (hb : Bk B W W') (hB : w.heap.size ≤ B) : TnI w b size room xs G q o i W' := by
  obtain ⟨h1, h2, h3, h4, h5, ⟨ao, cap, h6, h7, h8⟩, h9, h10⟩ := h
  exact ⟨h1, hb.heap h2 rfl, hb.heap h3 rfl, hb.heap h4 rfl, hb.heap h5 rfl, ⟨ao, cap, hb.heap h6 rfl, h7.bk hb, h8⟩, h9.bk hb, hb.fr h10 hB⟩
theorem TnX.bk {w : World} {b : Nat} {size room : Int} {xs : List Int} {G : Option Nat} {k : Nat} {c : Code} {W W' : World} {B : Nat} (h : TnX w b size room xs G k c W) (hb : Bk B W W') (hB : w.heap.size ≤ B) : TnX w b size room xs G k c W' := by
  obtain ⟨h1, h2, ⟨ao, cap, h6, h7, h8⟩, h9, h10⟩ := h
  exact ⟨h1, hb.heap h2 rfl, ⟨ao, cap, hb.heap h6 rfl, h7.bk hb, h8⟩, h9.bk hb, hb.fr h10 hB⟩
/-- the iterator's step turns only the batch -/
theorem TnI.step {w : World} {b : Nat} {size room : Int} {xs : List Int} {G : Option Nat} {c q o i m : Nat} {W W1 : World} {x : Int} {i' : Nat} (h : TnI w b size room xs G q o i W) (hs : TkStep c b size room xs G m i W x i' W1) (hm : m ≤ xs.length) (hb : b < w.heap.size) :
    TnI w b size room xs G q o i' W1 := by
  obtain ⟨h1, h2, h3, h4, h5, ⟨ao, cap, h6, h7, h8⟩, h9, h10⟩ := h
  obtain ⟨s1, rfl, s2, s3, s4⟩ := hs
  have hn : ∀ j, w.heap.size ≤ j → ¬ j = b := fun j hj => by omega
  exact ⟨by omega, s4.heap h2 (hn _ (by omega)), s4.heap h3 (hn _ (by omega)), s4.heap h4 (hn _ (by omega)), s4.heap h5 (hn _ (by omega)), ⟨ao, cap, s4.heap h6 (hn _ (by omega)), h7.fr s4 (fun g hg => hn _ (by have := h8 g hg; omega)), h8⟩, s3, h10.trans' s4⟩

theorem TnX.of {w : World} {b : Nat} {size room : Int} {xs : List Int} {G : Option Nat} {k : Nat} {W : World} (ao' : Option Addr) (cap' : Nat) (g3 : W.heap[w.heap.size + 1]? = some (.cells #[.slice none 0 0] 30 (0, 0))) (g4 : W.heap[w.heap.size + 2]? = some (.cells #[.bool false] 4 (0, 0)))
    (hS : Sl W 3 1 (.slice ao' k cap') k ((xs.take k).map (Value.int .i64))) (hown : ∀ g, Value.ownBlock (.slice ao' k cap') = some g → w.heap.size + 5 ≤ g) (hB : Bat W b size room (xs.drop k) G) (hF : Fr (fun k => k = b) w W) (hb : b < w.heap.size) (hG : ∀ g, G = some g → g < w.heap.size) :
    TnX w b size room xs G k .ret ((W.setCell ⟨w.heap.size + 1, 0, none⟩ (.slice ao' k cap')).setCell ⟨w.heap.size + 2, 0, none⟩ (.bool true)) := by
  have f1 : Fr (fun i => i = w.heap.size + 1) W (W.setCell ⟨w.heap.size + 1, 0, none⟩ (.slice ao' k cap')) := (Fr.refl (fun i => i = w.heap.size + 1) W).setCell (p := ⟨w.heap.size + 1, 0, none⟩) (fun _ => rfl) _
  have s1 := heap_setC (j := 0) (.slice ao' k cap') g3
  have s2 := f1.heap g4 (by omega)
  generalize W.setCell ⟨w.heap.size + 1, 0, none⟩ (.slice ao' k cap') = W2 at *
  have f2 : Fr (fun i => i = w.heap.size + 2) W2 (W2.setCell ⟨w.heap.size + 2, 0, none⟩ (.bool true)) := (Fr.refl (fun i => i = w.heap.size + 2) W2).setCell (p := ⟨w.heap.size + 2, 0, none⟩) (fun _ => rfl) _
  refine ⟨rfl, heap_setC _ s2, ⟨ao', cap', f2.heap s1 (by omega), (hS.fr f1 (fun g hg e => by have := hown g hg; omega)).fr f2 (fun g hg e => by have := hown g hg; omega), hown⟩, (hB.fr f1 (fun i hk => ?_)).fr f2 (fun i hk => ?_), (hF.trans f1 (fun i hk e => by omega)).trans f2 (fun i hk e => by omega)⟩
  · rcases hk with rfl | hk
    · omega
    · have := hG i hk; omega
  · rcases hk with rfl | hk
    · omega
    · have := hG i hk; omega

/-- the round's append and its store -/
theorem TnI.grow {w : World} {b : Nat} {size room : Int} {xs : List Int} {G : Option Nat} {q j : Nat} {Wb w' : World} {x : Int} {v : Value} {ao' : Option Addr} {cap' : Nat} (h : TnI w b size room xs G q j (j + 1) Wb) (hx : xs[j]? = some x) (hb : b < w.heap.size) (hG : ∀ g, G = some g → g < w.heap.size)
    (hv : ∀ g, v.ownBlock = some g → w.heap.size + 5 ≤ g) (hs' : Sl w' 3 1 (.slice ao' (j + 1) cap') (j + 1) ((xs.take j).map (Value.int .i64) ++ [.int .i64 x])) (hfr : Fr (fun k => v.ownBlock = some k) Wb w')
    (hor : Value.ownBlock (.slice ao' (j + 1) cap') = v.ownBlock ∨ ∀ g, Value.ownBlock (.slice ao' (j + 1) cap') = some g → Wb.heap.size ≤ g) (hsz : w.heap.size + 5 ≤ Wb.heap.size) :
    TnI w b size room xs G q (j + 1) (j + 1) (w'.setCell ⟨w.heap.size + 4, 0, none⟩ (.slice ao' (j + 1) cap')) ∧
      TnX w b size room xs G (j + 1) .ret (((w'.setCell ⟨w.heap.size + 4, 0, none⟩ (.slice ao' (j + 1) cap')).setCell ⟨w.heap.size + 1, 0, none⟩ (.slice ao' (j + 1) cap')).setCell ⟨w.heap.size + 2, 0, none⟩ (.bool true)) := by
  obtain ⟨h1, h2, h3, h4, h5, ⟨ao, cap, h6, h7, h8⟩, h9, h10⟩ := h
  have hn : ∀ k, k < w.heap.size + 5 → ¬ v.ownBlock = some k := fun k hk e => by have := hv k e; omega
  have hfs : Fr (fun k => k = w.heap.size + 4) w' (w'.setCell ⟨w.heap.size + 4, 0, none⟩ (.slice ao' (j + 1) cap')) := (Fr.refl (fun k => k = w.heap.size + 4) w').setCell (p := ⟨w.heap.size + 4, 0, none⟩) (fun _ => rfl) _
  have hown : ∀ g, Value.ownBlock (.slice ao' (j + 1) cap') = some g → w.heap.size + 5 ≤ g := fun g hg => by
    rcases hor with e | e
    · exact hv g (by rw [← e]; exact hg)
    · have := e g hg; omega
  have e : (xs.take (j + 1)).map (Value.int .i64) = (xs.take j).map (Value.int .i64) ++ [.int .i64 x] := by rw [List.take_add_one, hx]; simp
  have hS : Sl (w'.setCell ⟨w.heap.size + 4, 0, none⟩ (.slice ao' (j + 1) cap')) 3 1 (.slice ao' (j + 1) cap') (j + 1) ((xs.take (j + 1)).map (Value.int .i64)) := by
    rw [e]
    exact hs'.fr hfs (fun g hg e => by have := hown g hg; omega)
  have hB : Bat (w'.setCell ⟨w.heap.size + 4, 0, none⟩ (.slice ao' (j + 1) cap')) b size room (xs.drop (j + 1)) G := by
    refine (h9.fr hfr (fun k hk => hn k ?_)).fr hfs (fun k hk => ?_)
    · rcases hk with rfl | hk
      · omega
      · have := hG k hk; omega
    · rcases hk with rfl | hk
      · omega
      · have := hG k hk; omega
  have hF : Fr (fun k => k = b) w (w'.setCell ⟨w.heap.size + 4, 0, none⟩ (.slice ao' (j + 1) cap')) := (h10.trans hfr (fun k hk e => absurd e (hn k (by omega)))).trans hfs (fun k hk e => by omega)
  have g3 := hfs.heap (hfr.heap h3 (hn _ (by omega))) (by omega)
  have g4 := hfs.heap (hfr.heap h4 (hn _ (by omega))) (by omega)
  refine ⟨⟨h1, hfs.heap (hfr.heap h2 (hn _ (by omega))) (by omega), g3, g4, hfs.heap (hfr.heap h5 (hn _ (by omega))) (by omega), ⟨ao', cap', heap_setC _ (hfr.heap h6 (hn _ (by omega))), hS, hown⟩, hB, hF⟩, ?_⟩
  exact TnX.of ao' cap' g3 g4 hS hown hB hF hb hG

/-- the frame of a round -/
abbrev TnA (b q N : Nat) (x : Int) : Act :=
  { tmps := #[.pointer (some ⟨b, 0, none⟩), .int .i64 q, undef, .pointer (some ⟨N, 0, none⟩), .pointer (some ⟨N + 1, 0, none⟩), .pointer (some ⟨N + 1 + 1, 0, none⟩), .func (.func 16) #[] #[.pointer (some ⟨N + 1 + 1 + 1, 0, none⟩)],
      .pointer (some ⟨N + 1 + 1 + 1 + 1, 0, none⟩), .int .i64 x, .pointer (some ⟨b, 0, none⟩), .func (.func 16) #[] #[.pointer (some ⟨N + 1 + 1 + 1, 0, none⟩)], .func (.func 16) #[] #[.pointer (some ⟨N + 1 + 1 + 1, 0, none⟩)],
      .bool false, .int .i64 q, .bool false, .func (.func 16) #[] #[.pointer (some ⟨N + 1 + 1 + 1, 0, none⟩)], .int .i64 x, undef, undef, undef, undef, undef, undef, undef, undef, undef, undef], defers := [] }

set_option maxHeartbeats 1000000 in
theorem taken_some (b : Nat) (q : Nat) (w : World) (size room : Int) (xs : List Int) (G : Option Nat) (h : Bat w b size room xs G) (hq : 0 < q) (m : Nat) (hm : (m : Int) = min size xs.length) (hsz : 0 ≤ size) (hxs : xs.length ≤ 1000) (hG : ∀ g, G = some g → g < w.heap.size) :
    Calls Try.prog 9 #[.pointer (some ⟨b, 0, none⟩), .int .i64 q] w fun e w' => ∃ ao cap, e = .returned (.tuple #[.slice ao (min m q) cap, .bool true]) ∧
      Sl w' 3 1 (.slice ao (min m q) cap) (min m q) ((xs.take (min m q)).map (Value.int .i64)) ∧ (∀ g, Value.ownBlock (.slice ao (min m q) cap) = some g → w.heap.size ≤ g) ∧ Bat w' b size room (xs.drop (min m q)) G ∧ Fr (fun k => k = b) w w' := by
  have hbl : b < w.heap.size := by obtain ⟨v, hb, _⟩ := h; exact (Array.getElem?_eq_some_iff.1 hb).1
  have hmx : m ≤ xs.length := by omega
  have hq0 : (0 : Int) < q := by omega
  refine calls_of_in (n := 4) free_wide (callsIn_of_wp_marks Try.func9 rfl trivial (wpIn_wide.2 ?_) rfl)
  simp only [Try.ntmps9, List.size_toArray, List.length_cons, List.length_nil, Nat.reduceAdd, Nat.reduceSub, Array.replicate_succ, Array.replicate_zero, List.push_toArray, List.append_toArray, List.nil_append, List.cons_append]
  have hnn := take_not_nil
  have H := Lib.hid h
  have Hm := Lib.hid hm
  clear h hm
  go_wp2_with (go_at_call 14; refine (take_any b _).mono ?_; rintro e w' ⟨rfl, rfl⟩)
  clear hnn
  refine wp_name ?_
  intro w5 hw5
  have hI0 : TnI w b size room xs G q 0 0 w5 := by
    have hfr : Fr no w w5 := by rw [hw5]; exact (((((Fr.refl no w).alloc _).alloc _).alloc _).alloc _).alloc _
    refine ⟨Nat.zero_le _, ?_, ?_, ?_, ?_, ⟨none, 0, ?_, by simpa using Sl.nil _ _ _, by simp [Value.ownBlock]⟩, ?_, hfr.mono (fun _ _ f => f.elim)⟩
    · rw [hw5]; simp only [alloc_get, World.size_alloc, Nat.add_assoc]; simp
    · rw [hw5]; simp only [alloc_get, World.size_alloc, Nat.add_assoc]; simp
    · rw [hw5]; simp only [alloc_get, World.size_alloc, Nat.add_assoc]; simp
    · rw [hw5]; simp only [alloc_get, World.size_alloc, Nat.add_assoc]; simp
    · rw [hw5]; simp only [alloc_get, World.size_alloc, Nat.add_assoc]; simp
    · exact H.out.fr hfr (fun _ _ f => f)
  have hsz5 : w.heap.size + 5 = w5.heap.size := by rw [hw5]; simp
  clear hw5
  refine (wpIn_wide (n := 3)).1 ?_
  refine wpIn_range (s0 := 0) rfl (by intro h; cases h) (gf := 16) (lb := #[.pointer (some ⟨w.heap.size + 1 + 1 + 1, 0, none⟩)]) rfl trivial (enters_of Try.func16 (by kernel_rfl) rfl)
    (take_iter (w.heap.size + 1 + 1 + 1) b size room xs G m Hm.out hsz hxs) (fun _ => rfl) ?hst ?hdn (fun i W => w.heap.size + 5 ≤ W.heap.size ∧ TnI w b size room xs G q i i W ∧ i < q) (TnX w b size room xs G (min m q)) (fun x i a1 W => a1 = TnA b q w.heap.size x ∧ w.heap.size + 5 ≤ W.heap.size ∧ ∃ j, i = j + 1 ∧ j < m ∧ xs[j]? = some x ∧ j < q ∧ TnI w b size room xs G q j i W) ?hI ?hIx ?hIA ?hPre ⟨Nat.le_of_eq hsz5, hI0, hq⟩ ?assign ?body ?done ?stop
  case assign =>
    rintro l i W x i' W1 ⟨hlt, hi, hiq⟩ hst
    gi_wp2
    exact ⟨Kb.refl _, trivial, Nat.le_trans hlt hst.2.2.2.2.size, i, hst.2.1, hst.1, hst.2.2.1, hiq, hi.step hst hmx hbl⟩
  case body =>
    rintro l x i a1 Wb hl ⟨rfl, hlt, j, rfl, hj, hx, hjq, hT⟩
    obtain ⟨h1, h2, h3, h4, h5, ⟨ao, cap, h6, h7, h8⟩, h9, h10⟩ := hT
    obtain ⟨i0, hi, hz0, hz1, hz2⟩ := info_parts Try.info3
    have c7 : Wb.cell? ⟨w.heap.size + 1 + 1 + 1 + 1, 0, none⟩ = some (.slice ao j cap) := cell_of_block h6 rfl
    have H2 := Lib.hid h2
    have H3 := Lib.hid h3
    have H4 := Lib.hid h4
    have H5 := Lib.hid h5
    have H6 := Lib.hid h6
    have H7 := Lib.hid h7
    have H8 := Lib.hid h8
    have H9 := Lib.hid h9
    have H10 := Lib.hid h10
    have hj1 : j ≤ 1000 := by omega
    clear h2 h3 h4 h5 h6 h7 h8 h9 h10
    delta TnA
    gi_wp2_with (gi_at_builtin; refine wpListIn_append_one Wb (.int .i64 x) 3 rfl _ _ 30 rfl 3 i0 (.int .i64 0) 8 Try.underlying30 hi hz0 hz1 hz2 rfl _ j _ rfl H7.out rfl rfl (by unfold maxLen; omega) (by omega) ?_)
    intro ao' cap' w' hs' hfr hor hkb
    rw [← List.map_take] at hs'
    have hg := TnI.grow ⟨h1, H2.out, H3.out, H4.out, H5.out, ⟨ao, cap, H6.out, H7.out, H8.out⟩, H9.out, H10.out⟩ hx hbl hG H8.out hs' hfr hor hlt
    have hn : ∀ k, k < w.heap.size + 5 → ¬ Value.ownBlock (.slice ao j cap) = some k := fun k hk e => by have := H8.out k e; omega
    have b7 := hfr.heap H6.out (hn _ (by omega))
    have b4 := hfr.heap H3.out (hn _ (by omega))
    have b5 := hfr.heap H4.out (hn _ (by omega))
    have b3 := hfr.heap H2.out (hn _ (by omega))
    have c7' : w'.cell? ⟨w.heap.size + 1 + 1 + 1 + 1, 0, none⟩ = some (.slice ao j cap) := cell_of_block b7 rfl
    have f7' : w'.frozen? ⟨w.heap.size + 1 + 1 + 1 + 1, 0, none⟩ = false := frozen_of_block b7
    have c4' : w'.cell? ⟨w.heap.size + 1, 0, none⟩ = some (.slice none 0 0) := cell_of_block b4 rfl
    have f4' : w'.frozen? ⟨w.heap.size + 1, 0, none⟩ = false := frozen_of_block b4
    have c5' : w'.cell? ⟨w.heap.size + 1 + 1, 0, none⟩ = some (.bool false) := cell_of_block b5 rfl
    have f5' : w'.frozen? ⟨w.heap.size + 1 + 1, 0, none⟩ = false := frozen_of_block b5
    have c3' : w'.cell? ⟨w.heap.size, 0, none⟩ = some (.int .i64 q) := cell_of_block b3 rfl
    have Hg := Lib.hid hg.1
    have Hx := Lib.hid hg.2
    have Hk := Lib.hid hkb
    clear hg hkb hs' hfr hor b7 b4 b5 b3 hn c7 hz0 hz1 hz2 hi hx
    by_cases hqq : j + 1 < q
    · gi_wp2
      exact ⟨Hk.out.trans (Kb.setCell _ _ _), by have := Hk.out.size; simp [World.setCell]; omega, Hg.out, hqq⟩
    · obtain rfl : q = j + 1 := by omega
      gi_wp2
      refine ⟨((Hk.out.trans (Kb.setCell _ _ _)).trans (Kb.setCell _ _ _)).trans (Kb.setCell _ _ _), ?_⟩
      rw [Nat.min_eq_right (by omega)]
      exact Hx.out
  case hst =>
    rintro i W x i' W1 ⟨hc, hB, _⟩ ⟨_, _, _, _, hfr⟩
    exact hfr.kb (fun k _ e => by subst e; obtain ⟨v, hb, _⟩ := hB; exact ⟨_, hb, rfl⟩)
  case hdn =>
    rintro i W W' _ ⟨_, q, rfl⟩
    exact Kb.drewN _ _
  case hI => exact fun i W W' h hb => ⟨Nat.le_trans h.1 hb.size, h.2.1.bk hb (by omega), h.2.2⟩
  case hIx => exact fun c W W' h hb => h.bk hb (by omega)
  case hIA =>
    rintro x i a1 W W' ⟨e, hlt, j, e1, e2, e3, e4, hT⟩ hb
    exact ⟨e, Nat.le_trans hlt hb.size, j, e1, e2, e3, e4, hT.bk hb (by omega)⟩
  case hPre => exact fun i W h => ⟨cell_of_block h.2.1.2.2.2.2.1 rfl, h.2.1.2.2.2.2.2.2.1, by omega⟩
  case done =>
    rintro D i W2 W' hD ⟨hlt, hT, hiq⟩ ⟨rfl, q', rfl⟩ hDd W'' hb hDd' hkb
    have hT2 := (hT.bk (Bk.drewN w5.heap.size _ q') (by omega)).bk hb (by omega)
    obtain ⟨h1, h2, h3, h4, h5, ⟨ao, cap, h6, h7, h8⟩, h9, h10⟩ := hT2
    have c7 : W''.cell? ⟨w.heap.size + 1 + 1 + 1 + 1, 0, none⟩ = some (.slice ao i cap) := cell_of_block h6 rfl
    have c4 : W''.cell? ⟨w.heap.size + 1, 0, none⟩ = some (.slice none 0 0) := cell_of_block h3 rfl
    have f4 : W''.frozen? ⟨w.heap.size + 1, 0, none⟩ = false := frozen_of_block h3
    have c5 : W''.cell? ⟨w.heap.size + 1 + 1, 0, none⟩ = some (.bool false) := cell_of_block h4 rfl
    have f5 : W''.frozen? ⟨w.heap.size + 1 + 1, 0, none⟩ = false := frozen_of_block h4
    have hX := TnX.of (k := i) ao cap h3 h4 h7 h8 h9 h10 hbl hG
    have HX := Lib.hid hX
    have HD := Lib.hid hDd'
    clear hX hDd hDd' hkb h2 h3 h4 h5 h6 h7 h8 h9 h10 hT hb hI0
    simp only [Exit.inBlock, Exit.then]
    go_wp2
    refine leaveM w5.heap.size [D] rfl (fun r hr => ?_) (by simp) (fun Wf hbf => ?_)
    · simp at hr; subst hr
      exact ⟨hD, (Below.heap_setCell _ _ _ _ (by simp; omega)).trans ((Below.heap_setCell _ _ _ _ (by simp; omega)).trans HD.out)⟩
    · have hX2 := HX.out.bk hbf (by omega)
      obtain ⟨_, g2, ⟨ao', cap', g6, g7, g8⟩, g9, g10⟩ := hX2
      rw [Nat.min_eq_left (by omega)]
      exact ⟨_, taken_res _ (w.heap.size + 1) (w.heap.size + 1 + 1) _ _ _ rfl rfl (cell_of_block g6 rfl) (cell_of_block g2 rfl), ao', cap', rfl, g7, fun g hg => by have := g8 g hg; omega, g9, g10⟩
  case stop =>
    rintro D c W hD hX hDd
    obtain ⟨rfl, hX⟩ := hX
    refine wpIn_ret ?_
    simp only [Exit.inBlock, Exit.then]
    refine leaveM w5.heap.size [D] rfl (fun r hr => ?_) (by simp) (fun Wf hbf => ?_)
    · simp at hr; subst hr
      exact ⟨hD, hDd⟩
    · have hX2 := TnX.bk (c := .ret) ⟨rfl, hX⟩ hbf (by omega)
      obtain ⟨_, g2, ⟨ao', cap', g6, g7, g8⟩, g9, g10⟩ := hX2
      exact ⟨_, taken_res _ (w.heap.size + 1) (w.heap.size + 1 + 1) _ _ _ rfl rfl (cell_of_block g6 rfl) (cell_of_block g2 rfl), ao', cap', rfl, g7, fun g hg => by have := g8 g hg; omega, g9, g10⟩
end Go.Proofs.Ytnchmnkiokofhaa
