/- TokenOwn, walked. -/
import Derived.Test.YtdddgfienicaaaaTokK
import Derived.Test.YtdddgfienicaaaaTokP
namespace Go.Proofs.Ytdddgfienicaaaa
open Go.RowKit Go.Shelf Go.XL
set_option linter.unusedVariables false
set_option linter.unusedSimpArgs false
attribute [local go_sem] Oper.semAt_some
theorem slCells_get : ∀ (l : List (Int × Dr)) (k : Nat) (x : Int × Dr), l[k]? = some x → (slCells l)[k * 7]? = some (.int .i64 x.1) ∧ (slCells l)[k * 7 + 1]? = some (.int .i64 x.2.t) ∧ (slCells l)[k * 7 + 2]? = some (.int .i64 x.2.s) ∧ (slCells l)[k * 7 + 3]? = some (.int .i64 x.2.q) ∧
    (slCells l)[k * 7 + 4]? = some x.2.dv ∧ (slCells l)[k * 7 + 5]? = some (.string x.2.key) ∧ (slCells l)[k * 7 + 6]? = some (.string x.2.val)
  | [], k, x, h => by simp at h
  | y :: l, 0, x, h => by simp at h; subst h; simp [slCells, Dr.cs]
  | y :: l, k + 1, x, h => by
    have := slCells_get l k x (by simpa using h)
    simpa [slCells, Dr.cs, Nat.add_mul] using this
theorem sls_cells {w : World} {v : Value} {l : List (Int × Dr)} (h : Rd w 7 v l.length (slCells l)) {k : Nat} {x : Int × Dr} (hx : l[k]? = some x) : ∃ g off cap, v = .slice (some ⟨g, off, none⟩) l.length cap ∧ l.length ≤ cap ∧ cap ≤ 9223372036854775807 ∧
    w.cell? ⟨g, off + k * 7, none⟩ = some (.int .i64 x.1) ∧ w.cell? ⟨g, off + k * 7 + 1, none⟩ = some (.int .i64 x.2.t) ∧ w.cell? ⟨g, off + k * 7 + 2, none⟩ = some (.int .i64 x.2.s) ∧ w.cell? ⟨g, off + k * 7 + 3, none⟩ = some (.int .i64 x.2.q) ∧
    w.cell? ⟨g, off + k * 7 + 4, none⟩ = some x.2.dv ∧ w.cell? ⟨g, off + k * 7 + 5, none⟩ = some (.string x.2.key) ∧ w.cell? ⟨g, off + k * 7 + 6, none⟩ = some (.string x.2.val) := by
  have hlt := (List.getElem?_eq_some_iff.1 hx).1
  obtain ⟨g, off, cap, rfl, h1, h2, hc⟩ := Rd.form h (by omega)
  obtain ⟨e0, e1, e2, e3, e4, e5, e6⟩ := slCells_get l k x hx
  refine ⟨g, off, cap, rfl, h1, h2, hc _ _ e0, ?_, ?_, ?_, ?_, ?_, ?_⟩
  · have := hc _ _ e1; rwa [← Nat.add_assoc] at this
  · have := hc _ _ e2; rwa [← Nat.add_assoc] at this
  · have := hc _ _ e3; rwa [← Nat.add_assoc] at this
  · have := hc _ _ e4; rwa [← Nat.add_assoc] at this
  · have := hc _ _ e5; rwa [← Nat.add_assoc] at this
  · have := hc _ _ e6; rwa [← Nat.add_assoc] at this
/-- what is read there is not that block -/
theorem rd_ne {w : World} {size n gv j : Nat} {v u : Value} {xs : List Value} {cs : Array Value} {E : TypeId} {fz : Nat × Nat} (h : Rd w size v n xs) (h0 : 0 < n) (hb : w.heap[gv]? = some (.cells cs E fz)) (hj : xs[j]? = some u) (hno : ∀ off, cs[off + j]? ≠ some u) :
    ∀ g, v.ownBlock = some g → g ≠ gv := by
  obtain ⟨g', off, cap, rfl, _, _, hc⟩ := h.form h0
  intro g hg e
  simp [Value.ownBlock] at hg
  subst hg
  subst e
  have h1 := hc j u hj
  rw [World.cell?] at h1
  simp only [hb] at h1
  exact hno off h1
theorem filter_both {p : Dr → Bool} : ∀ l : List Dr, (l.filter p).length + (l.filter (fun d => !p d)).length = l.length
  | [] => rfl
  | x :: l => by
    have := filter_both (p := p) l
    cases h : p x <;> simp [List.filter_cons, h] <;> omega
theorem vcov_refl (a : List Int) : vcov a a = true := by simp [vcov]
theorem bne_same (a : Int) : (a != a) = false := by simp
/-- draft number i -/
def OwnAt (bs : List Bool) (i : Nat) (d : Dr) : Prop := d.t = i + 1 ∧ d.s = 2 ∧ d.q = 0 ∧ d.dep = if bs[i]?.getD false = true then [1] else []
def OwnsAt (bs : List Bool) (wr : World) (lv : Value) (ds : List Dr) : Prop := (∀ i d, ds[i]? = some d → OwnAt bs i d) ∧ ∀ d ∈ ds, RdX (fun g => lv.ownBlock = some g) wr 1 d.dv d.dep.length (d.dep.map (Value.int .i64))

theorem OwnsAt.app {bs : List Bool} {wr wa w' : World} {lv lv' : Value} {ds : List Dr} {d : Dr} {i : Nat} (h : OwnsAt bs wr lv ds) (hi : ds.length = i) (hd : OwnAt bs i d) (hf1 : Fr no wr wa)
    (hx : RdX (fun g => lv.ownBlock = some g) wa 1 d.dv d.dep.length (d.dep.map (Value.int .i64))) (hf : Fr (fun k => lv.ownBlock = some k) wa w') (hor : lv'.ownBlock = lv.ownBlock ∨ ∀ g, lv'.ownBlock = some g → wa.heap.size ≤ g) : OwnsAt bs w' lv' (ds ++ [d]) := by
  have hX : ∀ g, lv'.ownBlock = some g → lv.ownBlock = some g ∨ wa.heap.size ≤ g := fun g hg => hor.elim (fun e => .inl (e ▸ hg)) (fun e => .inr (e g hg))
  have key : ∀ x : Dr, RdX (fun g => lv.ownBlock = some g) wa 1 x.dv x.dep.length (x.dep.map (Value.int .i64)) → RdX (fun g => lv'.ownBlock = some g) w' 1 x.dv x.dep.length (x.dep.map (Value.int .i64)) :=
    fun x h => ⟨(h.fr hf (fun _ _ e => e)).1, (h.grow (by decide) hX).2⟩
  refine ⟨fun j x hj => ?_, fun x hx' => ?_⟩
  · rcases Nat.lt_or_ge j ds.length with hlt | hge
    · rw [List.getElem?_append_left hlt] at hj; exact h.1 j x hj
    · have hl := (List.getElem?_eq_some_iff.1 hj).1
      simp at hl
      obtain rfl : j = i := by omega
      rw [List.getElem?_append_right (by omega)] at hj
      simp [hi] at hj
      subst hj
      exact hd
  · rcases List.mem_append.1 hx' with hm | hm
    · exact key x ((h.2 x hm).fr0' hf1)
    · simp at hm; subst hm; exact key _ hx
theorem OwnsAt.own {bs : List Bool} {wr : World} {lv : Value} {ds : List Dr} (h : OwnsAt bs wr lv ds) : ∀ d ∈ ds, OwnD d := fun d hd => by
  obtain ⟨i, hi⟩ := List.getElem?_of_mem hd
  obtain ⟨h1, h2, h3, h4⟩ := h.1 i d hi
  refine ⟨h2, h3, ?_⟩
  rw [h4]
  split
  · exact .inr rfl
  · exact .inl rfl

set_option maxRecDepth 100000 in
set_option maxHeartbeats 4000000 in
theorem tokenOwn_any (v : Value) (w : World) (bs : List Bool) (h : Rd w 1 v bs.length (bs.map Value.bool)) :
    Calls Try.prog 6 #[v] w fun e w' => e = .returned (.bool true) ∧ Fr no w w' := by
  obtain ⟨vo, vc, rfl, hvc, hvm⟩ := h.cap
  have H := Lib.hid h
  clear h
  generalize hn : bs.length = n at *
  have Hn := Lib.hid hn
  clear hn
  go_enter Try.func6, Try.ntmps6
  go_wp2_with fail
  refine (law_known w).mono ?_
  rintro e w1 ⟨rfl, hf1⟩
  have HF1 := Lib.hid hf1
  clear hf1
  by_cases h30 : 30 < n
  · go_wp2
    go_ret
    exact ⟨rfl, HF1.out⟩
  · obtain ⟨w2, hw2⟩ : ∃ w2, (w1.alloc (.cells #[.int .i64 0, .int .i64 0, .int .i64 4] 3)).alloc (.cells #[.int .i64 2, .int .i64 7, .slice (some ⟨w1.heap.size, 0, none⟩) 3 3, .slice none 0 0] 26) = w2 := ⟨_, rfl⟩
    have hbl : w2.heap[w1.heap.size]? = some (.cells #[.int .i64 0, .int .i64 0, .int .i64 4] 3 (0, 0)) := by rw [← hw2]; simp only [alloc_get, World.size_alloc]; simp
    have hbt : w2.heap[w1.heap.size + 1]? = some (.cells #[.int .i64 2, .int .i64 7, .slice (some ⟨w1.heap.size, 0, none⟩) 3 3, .slice none 0 0] 26 (0, 0)) := by rw [← hw2]; simp only [alloc_get, World.size_alloc]; simp
    have hf2 : Fr no w w2 := by rw [← hw2]; exact (HF1.out.alloc _).alloc _
    have hsz : w2.heap.size = w1.heap.size + 2 := by rw [← hw2]; simp
    have HB := Lib.hid hbl
    have HT := Lib.hid hbt
    have HF2 := Lib.hid hf2
    have Hsz := Lib.hid hsz
    have HW2 := Lib.hid hw2
    clear hbl hbt hf2 hsz hw2
    go_wp2_with fail
    rw [HW2.out]
    clear HW2
    go_loopw [4, 5, 6] (fun lv nv iv wr => ∃ (i : Nat) (lo : Option Addr) (lc : Nat) (ds : List Dr), i ≤ n ∧ iv = .int .i64 i ∧ nv = .int .i64 ((ds.filter (fun d => !waitsD d)).length : Nat) ∧ lv = .slice lo i lc ∧ ds.length = i ∧ Hid (Ow w2 wr 41 6 (.slice lo i lc) i (drCells ds)) ∧ Hid (OwnsAt bs wr (.slice lo i lc) ds)) (fun _ _ iv _ => n - (intOf iv).toNat)
    case atStart => exact ⟨0, none, 0, [], Nat.zero_le _, rfl, rfl, rfl, rfl, Lib.hid (Ow.nil (Fr.refl _ _) _ _), Lib.hid ⟨fun i d h => by simp at h, fun d h => by simp at h⟩⟩
    case round =>
      obtain ⟨i, lo, lc, ds, hi, rfl, rfl, rfl, hdl, hO, hD⟩ := hrel
      generalize wr = W at *
      by_cases hlt : i < n
      · obtain ⟨b, hb⟩ : ∃ b, bs[i]? = some b := ⟨bs[i]'(by rw [Hn.out]; exact hlt), by simp⟩
        obtain ⟨g, off, c', he, _, _, hcell⟩ := Rd.form (H.out.fr (HF2.out.trans' hO.out.fr) (fun _ _ _ f => f)) (by omega)
        cases he
        have hc := hcell i (.bool b) (by simp [hb])
        have Hc := Lib.hid hc
        have Hb := Lib.hid hb
        clear hcell hc hb
        go_wp2_with fail
        refine (show Calls _ _ _ _ (fun e w' => e = .returned (.agg #[.int .i64 1, .int .i64 2, .int .i64 0, .slice none 0 0, .string ⟨#[107]⟩, .string ⟨#[]⟩]) ∧ Fr no W w') from law_D 2 0 none 0 0 [] W).mono ?_
        rintro e w3 ⟨rfl, hf3⟩
        have hO3 := hO.out.step hf3
        have hD3 : OwnsAt bs w3 (.slice lo i lc) ds := ⟨hD.out.1, fun d hd => (hD.out.2 d hd).fr0' hf3⟩
        have hf4 : Fr no w3 (w3.alloc (.cells #[.int .i64 ((i : Int) + 1), .int .i64 2, .int .i64 0, .slice none 0 0, .string ⟨#[107]⟩, .string ⟨#[]⟩] 41)) := (Fr.refl no w3).alloc _
        have hc4 := hf4.cell (hf3.cell Hc.out (fun f => f)) (fun f => f)
        have HF4 := Lib.hid hf4
        have HO3 := Lib.hid hO3
        have HD3 := Lib.hid hD3
        clear hO3 hD3 hf3 hO hD hf4
        cases b
        · have hcn : (ds.filter (fun d => !waitsD d)).length ≤ 30 := by have := List.length_filter_le (fun d => !waitsD d) ds; omega
          obtain ⟨c, hcc⟩ : ∃ c, (ds.filter (fun d => !waitsD d)).length = c := ⟨_, rfl⟩
          rw [hcc] at hcn
          have Hcc := Lib.hid hcc
          obtain ⟨j0, hj0, jz0, jz1, jz2⟩ := info_parts (show (Try.prog.info? 41).map (fun i => (i.zero, i.size, i.bytes)) = some (some (.agg #[.int .i64 0, .int .i64 0, .int .i64 0, .slice none 0 0, .string ByteArray.empty, .string ByteArray.empty]), 6, 80) by kernel_rfl)
          obtain ⟨wa, hwa⟩ : ∃ x, (w3.alloc (.cells #[.int .i64 ((i : Int) + 1), .int .i64 2, .int .i64 0, .slice none 0 0, .string ⟨#[107]⟩, .string ⟨#[]⟩] 41)).alloc (.cells #[.int .i64 ((i : Int) + 1), .int .i64 2, .int .i64 0, .slice none 0 0, .string ⟨#[107]⟩, .string ⟨#[]⟩] 41) = x := ⟨_, rfl⟩
          have hbl : wa.heap[w3.heap.size + 1]? = some (.cells #[.int .i64 ((i : Int) + 1), .int .i64 2, .int .i64 0, .slice none 0 0, .string ⟨#[107]⟩, .string ⟨#[]⟩] 41 (0, 0)) := by rw [← hwa]; simp only [alloc_get, World.size_alloc]; simp
          have hlit : Rd wa 6 (.slice (some ⟨w3.heap.size + 1, 0, none⟩) 1 1) 1 [.int .i64 ((i : Int) + 1), .int .i64 2, .int .i64 0, .slice none 0 0, .string ⟨#[107]⟩, .string ⟨#[]⟩] := rd_blk hbl
          clear hbl
          have hfa : Fr no w3 wa := by rw [← hwa]; exact ((Fr.refl no w3).alloc _).alloc _
          have hsa : w3.heap.size + 2 = wa.heap.size := by rw [← hwa]; simp
          have Hsa := Lib.hid hsa
          have Hlit := Lib.hid hlit
          have HFa := Lib.hid hfa
          have Hwa := Lib.hid hwa
          clear hsa hlit hfa hwa hcc
          rw [Hcc.out]
          go_wp2_with (at_builtin; rw [Hwa.out]; refine wpList_append_all wa rfl _ _ 24 rfl 41 j0 _ 6 80 Try.underlying24 hj0 jz0 jz1 jz2 rfl (by decide) _ _ _ rfl (HO3.out.step HFa.out).sl _ _ _ rfl Hlit.out (by simp [Value.oneCell']) (by unfold maxLen; omega) (by omega) ?_)
          intro ao6 cap6 w6 hs6 hf6 ho6 _
          have HO6 : Hid (Ow w2 w6 41 6 (.slice ao6 (i + 1) cap6) (i + 1) (drCells (ds ++ [⟨(i : Int) + 1, 2, 0, .slice none 0 0, [], ⟨#[107]⟩, ⟨#[]⟩⟩]))) := by
            rw [drCells_append]; exact Lib.hid ((HO3.out.step HFa.out).app hs6 hf6 (by have := Hsa.out; simpa using ho6))
          have HD6 : Hid (OwnsAt bs w6 (.slice ao6 (i + 1) cap6) (ds ++ [⟨(i : Int) + 1, 2, 0, .slice none 0 0, [], ⟨#[107]⟩, ⟨#[]⟩⟩])) :=
            Lib.hid (HD3.out.app hdl ⟨rfl, rfl, rfl, by rw [Hb.out]; rfl⟩ HFa.out ⟨rd_zero _ _, fun h => absurd h (Nat.lt_irrefl 0)⟩ hf6 ho6)
          have hcnt : (List.filter (fun d => !waitsD d) (ds ++ [⟨(i : Int) + 1, 2, 0, .slice none 0 0, [], ⟨#[107]⟩, ⟨#[]⟩⟩])).length = c + 1 := by
            rw [List.filter_append, List.length_append, Hcc.out]; rfl
          have Hcnt := Lib.hid hcnt
          clear hs6 hf6 ho6 hcnt Hlit HO3 HD3 HF4 hc4
          go_wp2
          go_roundw
          case rel => exact ⟨i + 1, ao6, cap6, _, by omega, by go_num, by rw [Hcnt.out]; go_num, rfl, by simp [hdl], HO6, HD6⟩
          case measure => simp [intOf]; omega
        · have hcn : (ds.filter (fun d => !waitsD d)).length ≤ 30 := by have := List.length_filter_le (fun d => !waitsD d) ds; omega
          obtain ⟨c, hcc⟩ : ∃ c, (ds.filter (fun d => !waitsD d)).length = c := ⟨_, rfl⟩
          rw [hcc] at hcn
          have Hcc := Lib.hid hcc
          obtain ⟨j0, hj0, jz0, jz1, jz2⟩ := info_parts (show (Try.prog.info? 41).map (fun i => (i.zero, i.size, i.bytes)) = some (some (.agg #[.int .i64 0, .int .i64 0, .int .i64 0, .slice none 0 0, .string ByteArray.empty, .string ByteArray.empty]), 6, 80) by kernel_rfl)
          obtain ⟨wa, hwa⟩ : ∃ x, ((w3.alloc (.cells #[.int .i64 ((i : Int) + 1), .int .i64 2, .int .i64 0, .slice (some ⟨w3.heap.size + 1, 0, none⟩) 1 1, .string ⟨#[107]⟩, .string ⟨#[]⟩] 41)).alloc (.cells #[.int .i64 1] 3)).alloc (.cells #[.int .i64 ((i : Int) + 1), .int .i64 2, .int .i64 0, .slice (some ⟨w3.heap.size + 1, 0, none⟩) 1 1, .string ⟨#[107]⟩, .string ⟨#[]⟩] 41) = x := ⟨_, rfl⟩
          have hbl : wa.heap[w3.heap.size + 2]? = some (.cells #[.int .i64 ((i : Int) + 1), .int .i64 2, .int .i64 0, .slice (some ⟨w3.heap.size + 1, 0, none⟩) 1 1, .string ⟨#[107]⟩, .string ⟨#[]⟩] 41 (0, 0)) := by rw [← hwa]; simp only [alloc_get, World.size_alloc]; simp
          have hlit : Rd wa 6 (.slice (some ⟨w3.heap.size + 2, 0, none⟩) 1 1) 1 [.int .i64 ((i : Int) + 1), .int .i64 2, .int .i64 0, .slice (some ⟨w3.heap.size + 1, 0, none⟩) 1 1, .string ⟨#[107]⟩, .string ⟨#[]⟩] := rd_blk hbl
          clear hbl
          have hfa : Fr no w3 wa := by rw [← hwa]; exact (((Fr.refl no w3).alloc _).alloc _).alloc _
          have hsa : w3.heap.size + 3 = wa.heap.size := by rw [← hwa]; simp
          have hdx : RdX (fun g => (Value.slice lo i lc).ownBlock = some g) wa 1 (.slice (some ⟨w3.heap.size + 1, 0, none⟩) 1 1) 1 [.int .i64 1] :=
            ⟨rd_blk (E := 3) (cs := #[.int .i64 1]) (by rw [← hwa]; simp only [alloc_get, World.size_alloc]; simp), fun _ g hg e => by have := HO3.out.sl.lt g e; simp [Value.ownBlock] at hg; omega⟩
          have Hdx := Lib.hid hdx
          clear hdx
          have Hsa := Lib.hid hsa
          have Hlit := Lib.hid hlit
          have HFa := Lib.hid hfa
          have Hwa := Lib.hid hwa
          clear hsa hlit hfa hwa hcc
          rw [Hcc.out]
          go_wp2_with (at_builtin; rw [Hwa.out]; refine wpList_append_all wa rfl _ _ 24 rfl 41 j0 _ 6 80 Try.underlying24 hj0 jz0 jz1 jz2 rfl (by decide) _ _ _ rfl (HO3.out.step HFa.out).sl _ _ _ rfl Hlit.out (by simp [Value.oneCell']) (by unfold maxLen; omega) (by omega) ?_)
          intro ao6 cap6 w6 hs6 hf6 ho6 _
          have HO6 : Hid (Ow w2 w6 41 6 (.slice ao6 (i + 1) cap6) (i + 1) (drCells (ds ++ [⟨(i : Int) + 1, 2, 0, .slice (some ⟨w3.heap.size + 1, 0, none⟩) 1 1, [1], ⟨#[107]⟩, ⟨#[]⟩⟩]))) := by
            rw [drCells_append]; exact Lib.hid ((HO3.out.step HFa.out).app hs6 hf6 (by have := Hsa.out; simpa using ho6))
          have HD6 : Hid (OwnsAt bs w6 (.slice ao6 (i + 1) cap6) (ds ++ [⟨(i : Int) + 1, 2, 0, .slice (some ⟨w3.heap.size + 1, 0, none⟩) 1 1, [1], ⟨#[107]⟩, ⟨#[]⟩⟩])) :=
            Lib.hid (HD3.out.app hdl ⟨rfl, rfl, rfl, by rw [Hb.out]; rfl⟩ HFa.out Hdx.out hf6 ho6)
          have hcnt : (List.filter (fun d => !waitsD d) (ds ++ [⟨(i : Int) + 1, 2, 0, .slice (some ⟨w3.heap.size + 1, 0, none⟩) 1 1, [1], ⟨#[107]⟩, ⟨#[]⟩⟩])).length = c := by
            rw [List.filter_append, List.length_append, Hcc.out]; rfl
          have Hcnt := Lib.hid hcnt
          clear hs6 hf6 ho6 hcnt Hlit HO3 HD3 HF4 hc4
          go_wp2
          go_roundw
          case rel => exact ⟨i + 1, ao6, cap6, _, by omega, by go_num, by rw [Hcnt.out], rfl, by simp [hdl], HO6, HD6⟩
          case measure => simp [intOf]; omega
      · obtain rfl : i = n := by omega
        obtain ⟨Wd, hWd⟩ : ∃ Wd, ds.filter waitsD = Wd := ⟨_, rfl⟩
        obtain ⟨Od, hOd⟩ : ∃ Od, ds.filter (fun d => !waitsD d) = Od := ⟨_, rfl⟩
        have hown := hD.out.own
        have hboth := filter_both (p := waitsD) ds
        rw [hWd, hOd, hdl] at hboth
        have hWm : ∀ d ∈ Wd, OwnD d ∧ waitsD d = true := fun d hd => by rw [← hWd] at hd; exact ⟨hown d ((List.mem_filter.1 hd).1), (List.mem_filter.1 hd).2⟩
        have hag := own_ago ds [] i 7 4 [] (fun d h => by simp at h) hown (by omega) (by omega) (by omega)
        rw [hOd, hWd, List.nil_append, List.nil_append, List.nil_append] at hag
        obtain ⟨c, hc⟩ : ∃ c, Od.length = c := ⟨_, rfl⟩
        rw [hc] at hboth hag
        have hint : IntsAt W (.slice (some ⟨w1.heap.size, 0, none⟩) 3 3) [0, 0, 4] := rd_blk (hO.out.fr.heap HB.out (fun f => f))
        have hlist : DrsAt W (.slice lo i lc) ds := by show Rd W 6 (.slice lo i lc) ds.length (drCells ds); rw [hdl]; exact hO.out.rd
        have hA := tAdmit 2 7 (.slice (some ⟨w1.heap.size, 0, none⟩) 3 3) (.slice none 0 0) (.slice lo i lc) [0, 0, 4] [] ds W hint (fun x h => by simp at h; omega) (rd_zero _ _) hlist (fun d hd => (hD.out.2 d (by simpa using hd)).1) (fun d hd => by have := hown d (by simpa using hd); rw [this.2.1]; omega) (by simp; omega) (by decide) (by decide) (by decide)
        rw [List.length_nil, Nat.zero_add, hdl, List.nil_append, hag] at hA
        have HA : Hid (Calls Try.prog 17 #[.agg #[.int .i64 2, .int .i64 7, .slice (some ⟨w1.heap.size, 0, none⟩) 3 3, .slice none 0 0], .slice lo i lc] W fun e w' => ∃ sv' tv' ov', e = .returned (.tuple #[.agg #[.int .i64 2, .int .i64 (7 + c), sv', tv'], ov']) ∧ AdR W w' 2 7 i ⟨7 + c, [0, 0, 4 + c], Wd, numbered 7 (4 + 1) Od⟩ (.slice (some ⟨w1.heap.size, 0, none⟩) 3 3) sv' tv' ov') := Lib.hid hA
        have t0 := cell_of_block (j := 0) (hO.out.fr.heap HT.out (fun f => f)) rfl
        have t1 := cell_of_block (j := 1) (hO.out.fr.heap HT.out (fun f => f)) rfl
        have t2 := cell_of_block (j := 2) (hO.out.fr.heap HT.out (fun f => f)) rfl
        have t3 := cell_of_block (j := 3) (hO.out.fr.heap HT.out (fun f => f)) rfl
        have HFW := Lib.hid (HF2.out.trans' hO.out.fr)
        have HWm := Lib.hid hWm
        have HWd := Lib.hid hWd
        have HOd := Lib.hid hOd
        have Hc := Lib.hid hc
        have hnc : (ds.filter (fun d => !waitsD d)).length = c := by rw [hOd, hc]
        rw [hnc]
        clear hA hag hint hlist hown hWm hWd hOd hc hO hnc
        go_wp2_with fail
        refine HA.out.mono ?_
        rintro e w4 ⟨sv', tv', ov', rfl, hR⟩
        have hl := hR.late
        rw [own_late _ _ _ (fun d hd => (HWm.out d hd).1), List.nil_append] at hl
        have hse : Rd w4 1 sv' 3 [.int .i64 0, .int .i64 0, .int .i64 (4 + c)] := hR.seen
        have ho : Rd w4 7 ov' c (slCells (numbered 7 5 Od)) := by have := hR.out; rw [numbered_len, Hc.out] at this; exact this
        obtain ⟨so, sc, rfl, _, _⟩ := hse.cap
        obtain ⟨eo, ec, rfl, _, _⟩ := Rd.cap hl
        obtain ⟨oo, oc, rfl, _, _⟩ := ho.cap
        obtain ⟨w5, hw5⟩ : ∃ w5, w4.alloc (.cells #[.int .i64 2, .int .i64 (7 + c), .slice so 3 sc, .slice eo Wd.length ec] 26) = w5 := ⟨_, rfl⟩
        have hf5 : Fr no w4 w5 := by rw [← hw5]; exact (Fr.refl no w4).alloc _
        have hb5 : w5.heap[w4.heap.size]? = some (.cells #[.int .i64 2, .int .i64 (7 + c), .slice so 3 sc, .slice eo Wd.length ec] 26 (0, 0)) := by rw [← hw5]; exact World.alloc_heap_new _ _
        have HW5 := Lib.hid hw5
        have HB5 := Lib.hid hb5
        have HF5 := Lib.hid (HFW.out.trans' (hR.fr.trans' hf5))
        have Hl := Lib.hid (hl.fr hf5 (fun _ _ _ f => f))
        have Hse := Lib.hid (hse.fr hf5 (fun _ _ _ f => f))
        have Ho := Lib.hid (ho.fr hf5 (fun _ _ _ f => f))
        have Hdk : Hid (∀ d ∈ Wd, DrOk w5 d) := Lib.hid (fun d hd => Rd.fr (hR.p.lk d hd).1 (hR.fr.trans' hf5) (fun _ _ _ f => f))
        obtain ⟨m, hm⟩ : ∃ m, Wd.length = m := ⟨_, rfl⟩
        rw [hm] at hboth
        have Hm := Lib.hid hm
        have hmc : IntKind.i64.wrap ((i : Int) - c) = m := by rw [IntWalk.i64_in _ (by omega)]; omega
        have hmc2 : wrap64 ((i : Int) - c) = m := by unfold wrap64; omega
        clear hR hl hse ho hw5 hf5 hb5 hm t0 t1 t2 t3
        rw [Hm.out] at HW5 HB5 Hl
        obtain ⟨nx, hnx⟩ : ∃ nx : Int, 7 + (c : Int) = nx := ⟨_, rfl⟩
        have Hnx := Lib.hid hnx
        rw [hnx] at HW5 HB5
        rw [hnx]
        have hcmp : (nx != 7 + (c : Int)) = false := by rw [hnx]; exact bne_same _
        clear hnx
        rw [Hm.out]
        go_upto_region 18 with (fail)
        rw [HW5.out]
        clear HW5
        generalize w4.heap.size = gu at *
        have c0 := cell_of_block (j := 1) HB5.out rfl
        have c1 := cell_of_block (j := 3) HB5.out rfl
        go_upto_region 20 with (fail)
        clear c0 c1 hmc hmc2 hcmp
        go_wp2_with fail
        go_loopw [10, 11] (fun kv jv wr => ∃ (j k : Nat), j ≤ i ∧ jv = .int .i64 j ∧ kv = .int .i64 k ∧ w5 = wr ∧ Hid (k = ((ds.take j).filter (fun d => !waitsD d)).length)) (fun _ jv _ => i - (intOf jv).toNat)
        case atStart => exact ⟨0, 0, Nat.zero_le _, rfl, rfl, rfl, Lib.hid rfl⟩
        case round =>
          obtain ⟨j, k, hj, rfl, rfl, rfl, hK⟩ := hrel
          by_cases hjl : j < i
          · obtain ⟨d, hd⟩ : ∃ d, ds[j]? = some d := ⟨ds[j]'(by rw [hdl]; exact hjl), by simp⟩
            obtain ⟨b, hb⟩ : ∃ b, bs[j]? = some b := ⟨bs[j]'(by rw [Hn.out]; exact hjl), by simp⟩
            have hat := hD.out.1 j d hd
            obtain ⟨g, off, c', he, _, _, hcell⟩ := Rd.form (H.out.fr HF5.out (fun _ _ _ f => f)) (by omega)
            cases he
            have hcb := hcell j (.bool b) (by simp [hb])
            have htk : ds.take (j + 1) = ds.take j ++ [d] := by rw [List.take_add_one, hd]; simp
            cases b
            · have hw : waitsD d = false := by unfold waitsD; rw [hat.2.2.2, hb]; rfl
              have hkk := filter_at (p := fun d => !waitsD d) hd (by simp [hw])
              rw [HOd.out, ← hK.out] at hkk
              have hgt := numbered_get Od 7 5 k d hkk
              have hkl : k < c := by rw [← Hc.out]; exact (List.getElem?_eq_some_iff.1 hkk).1
              obtain ⟨go, offo, oc2, heo, _, _, e0, e1, e2, e3, _⟩ := sls_cells (l := numbered 7 5 Od) (v := .slice oo c oc) (by rw [numbered_len, Hc.out]; exact Ho.out) hgt
              rw [numbered_len, Hc.out] at heo
              cases heo
              dsimp only at e0 e1 e2 e3
              rw [hat.1] at e1
              have hK2 : Hid (k + 1 = ((ds.take (j + 1)).filter (fun d => !waitsD d)).length) := Lib.hid (by rw [htk, List.filter_append, List.length_append, ← hK.out]; simp [List.filter_cons, hw])
              obtain ⟨pk, hpk⟩ : ∃ pk : Int, 7 + (k : Int) = pk := ⟨_, rfl⟩
              obtain ⟨qk, hqk⟩ : ∃ qk : Int, 5 + (k : Int) = qk := ⟨_, rfl⟩
              rw [hpk] at e0
              rw [hqk] at e3
              have y1 : (qk != 5 + (k : Int)) = false := by rw [hqk]; exact bne_same _
              have y2 : (pk != 7 + (k : Int)) = false := by rw [hpk]; exact bne_same _
              clear hkk hgt htk hw hcell hat hd hb hK hpk hqk
              go_wp2
              go_roundw
              case rel => exact ⟨j + 1, k + 1, by omega, by go_num, by go_num, trivial, hK2⟩
              case measure => simp [intOf]; omega
            · have hw : waitsD d = true := by unfold waitsD; rw [hat.2.2.2, hb]; rfl
              have hK2 : Hid (k = ((ds.take (j + 1)).filter (fun d => !waitsD d)).length) := Lib.hid (by rw [htk, List.filter_append, List.length_append, ← hK.out]; simp [List.filter_cons, hw])
              clear htk hw hcell hat hd hb hK
              go_wp2
              go_roundw
              case rel => exact ⟨j + 1, k, by omega, by go_num, rfl, trivial, hK2⟩
              case measure => simp [intOf]; omega
          · obtain rfl : i = j := by omega
            have hag2 := own_ago2 Wd (mkDr 0 1 (.slice none 0 0) []) nx (4 + c) (m + 1) ⟨rfl, rfl, rfl⟩ HWm.out (by rw [Hm.out]; omega) (by omega) (by rw [Hm.out]; omega)
            rw [Hm.out] at hag2
            have hHA2 : ∀ (wc : World) (gd : Nat), Fr no w5 wc → wc.heap[gd]? = some (.cells #[.int .i64 0, .int .i64 0, .int .i64 1, .slice none 0 0, .string ⟨#[107]⟩, .string ⟨#[]⟩] 41 (0, 0)) → Calls Try.prog 17 #[.agg #[.int .i64 2, .int .i64 nx, .slice so 3 sc, .slice eo m ec], .slice (some ⟨gd, 0, none⟩) 1 1] wc fun e w' => ∃ sv' tv' ov', e = .returned (.tuple #[.agg #[.int .i64 2, .int .i64 (nx + 1 + m), sv', tv'], ov']) ∧ AdR wc w' 2 nx (m + 1) ⟨nx + 1 + m, [1, 0, 4 + c + m], [], (nx, mkDr 0 1 (.slice none 0 0) []) :: numbered (nx + 1) (4 + c + 1) Wd⟩ (.slice so 3 sc) sv' tv' ov' := fun wc gd hf hg => by
              have h := tAdmit 2 nx (.slice so 3 sc) (.slice eo m ec) (.slice (some ⟨gd, 0, none⟩) 1 1) [0, 0, 4 + c] Wd [mkDr 0 1 (.slice none 0 0) []] wc (Rd.fr Hse.out hf (fun _ _ _ f => f)) (fun x h => by simp at h; omega) (by show Rd wc 6 _ Wd.length _; rw [Hm.out]; exact Rd.fr Hl.out hf (fun _ _ _ f => f)) (rd_blk hg) (fun d hd => by
                rcases List.mem_append.1 hd with hd | hd
                · exact Rd.fr (Hdk.out d hd) hf (fun _ _ _ f => f)
                · simp at hd; subst hd; exact rd_zero _ _) (fun d hd => by
                rcases List.mem_append.1 hd with hd | hd
                · rw [(HWm.out d hd).1.2.1]; omega
                · simp at hd; subst hd; simp [mkDr]) (by rw [Hm.out]; simp; omega) (by simp) (by have := Hnx.out; omega) (by have := Hnx.out; omega)
              rw [Hm.out, show [mkDr 0 1 (.slice none 0 0) []].length = 1 from rfl, hag2] at h
              exact h
            have HA2 := Lib.hid hHA2
            have HFw := HF5
            clear hHA2 hag2 HF5
            go_upto_region 28 with (fail)
            obtain ⟨M, hM⟩ : ∃ M, 1 + m = M := ⟨_, rfl⟩
            have HM := Lib.hid hM
            clear hM
            go_cut [12, 13] (fun pv bv wx => ∃ (gv : Nat) (so2 : Option Addr) (sc2 : Nat) (eo2 : Option Addr) (ec2 go offo oc2 : Nat), pv = .pointer (some ⟨gv, 0, none⟩) ∧ bv = .slice (some ⟨go, offo, none⟩) M oc2 ∧ M ≤ oc2 ∧ oc2 ≤ 9223372036854775807 ∧ sc2 ≤ 9223372036854775807 ∧ 3 ≤ sc2 ∧ Hid (wx.heap[gv]? = some (.cells #[.int .i64 2, .int .i64 (nx + 1 + m), .slice so2 3 sc2, .slice eo2 0 ec2] 26 (0, 0))) ∧ Hid (IntsAt wx (.slice so2 3 sc2) [1, 0, 4 + c + m]) ∧ Hid (wx.cell? ⟨go, offo + 2, none⟩ = some (.int .i64 0)) ∧ Hid (Fr no w wx))
            case first =>
              obtain ⟨Sg338_0, HSg338_0⟩ : ∃ S : World → Prop, Hid (S = (fun w' => w'.cell? ⟨gu, 0, none⟩ = some (.int .i64 2) ∧ w'.cell? ⟨gu, 1, none⟩ = some (.int .i64 nx) ∧ w'.cell? ⟨gu, 2, none⟩ = some (.slice so 3 sc) ∧ w'.cell? ⟨gu, 3, none⟩ = some (.slice eo m ec))) := ⟨_, Lib.hid rfl⟩
              obtain ⟨Sg338_1, HSg338_1⟩ : ∃ S : World → Prop, Hid (S = (fun _ => True)) := ⟨_, Lib.hid rfl⟩
              refine wp_heldp [8] (pickS [Sg338_0, Sg338_1]) (by kernel_rfl) ?_ (fun hHeld => ?_)
              · show Sg338_0 _; rw [HSg338_0.out]; have hb : w5.drew.heap[gu]? = _ := HB5.out; exact ⟨cell_of_block hb rfl, cell_of_block hb rfl, cell_of_block hb rfl, cell_of_block hb rfl⟩
              obtain ⟨wc, hwc⟩ : ∃ x, w5.drew = x := ⟨_, rfl⟩; rw [hwc] at hHeld; rw [hwc]; have HF : Hid (Fr no w5 wc) := (by rw [← hwc]; exact Lib.hid ((Fr.refl no w5).drewN 1)); clear hwc
              refine heldp_take (v := ?_) 0 0 rfl (by kernel_rfl) (.inl ⟨by rfl, ?_⟩) hHeld ?_
              rotate_left
              · intro w hSw; replace hSw : Sg338_0 w := hSw; rw [HSg338_0.out] at hSw; (try dsimp only at hSw); first | (go_simp; done) | (go_simp; with_reducible rfl)
              try simp only [Act.put, List.setIfInBounds_toArray, List.set_cons_zero, List.set_cons_succ]
              refine heldp_two 1 7 (by kernel_rfl) ?_ ?_
              · refine heldp_op 1 0 rfl (by kernel_rfl) (fun K hK => ?_)
                go_simp
                go_at_call 26
                refine (show Calls _ _ _ _ (fun e w' => e = .returned (.agg #[.int .i64 0, .int .i64 0, .int .i64 1, .slice none 0 0, .string ⟨#[107]⟩, .string ⟨#[]⟩]) ∧ Fr no wc w') from law_D 0 1 none 0 0 [] wc).mono ?_
                rintro e wc ⟨rfl, hfd⟩
                replace HF := Lib.hid (HF.out.trans' hfd)
                try replace V := Lib.hid (hfd.heap V.out (fun f => f))
                clear hfd
                refine hK.out _ _ ?_ (fun hHeld' => ?_)
                · show Sg338_0 _; rw [HSg338_0.out]; have hb := HF.out.heap HB5.out (fun f => f); exact ⟨cell_of_block hb rfl, cell_of_block hb rfl, cell_of_block hb rfl, cell_of_block hb rfl⟩
                clear hK K hHeld
                have hHeld := hHeld'
                clear hHeld'
                try simp only [Act.put, List.setIfInBounds_toArray, List.set_cons_zero, List.set_cons_succ]
                refine heldp_two 2 7 (by kernel_rfl) ?_ ?_
                · refine heldp_op 2 0 rfl (by kernel_rfl) (fun K hK => ?_)
                  go_simp
                  have hfa : Fr no wc (wc.alloc (.cells #[.int .i64 0, .int .i64 0, .int .i64 1, .slice none 0 0, .string ⟨#[107]⟩, .string ⟨#[]⟩] 41)) := (Fr.refl no wc).alloc _
                  have hba := World.alloc_heap_new wc (.cells #[.int .i64 0, .int .i64 0, .int .i64 1, .slice none 0 0, .string ⟨#[107]⟩, .string ⟨#[]⟩] 41)
                  obtain ⟨gd, hgd⟩ : ∃ x, wc.heap.size = x := ⟨_, rfl⟩
                  obtain ⟨wc, hwc⟩ : ∃ x, wc.alloc (.cells #[.int .i64 0, .int .i64 0, .int .i64 1, .slice none 0 0, .string ⟨#[107]⟩, .string ⟨#[]⟩] 41) = x := ⟨_, rfl⟩
                  rw [hgd, hwc]
                  rw [hgd, hwc] at hba
                  rw [hwc] at hfa
                  replace HF := Lib.hid (HF.out.trans' hfa)
                  try replace V := Lib.hid (hfa.heap V.out (fun f => f))
                  have D := Lib.hid hba
                  clear hba hfa hwc hgd
                  refine hK.out _ _ ?_ (fun hHeld' => ?_)
                  · show Sg338_0 _; rw [HSg338_0.out]; have hb := HF.out.heap HB5.out (fun f => f); exact ⟨cell_of_block hb rfl, cell_of_block hb rfl, cell_of_block hb rfl, cell_of_block hb rfl⟩
                  clear hK K hHeld
                  have hHeld := hHeld'
                  clear hHeld'
                  try simp only [Act.put, List.setIfInBounds_toArray, List.set_cons_zero, List.set_cons_succ]
                  refine heldp_two 3 7 (by kernel_rfl) ?_ ?_
                  · refine heldp_op 3 0 rfl (by kernel_rfl) (fun K hK => ?_)
                    go_simp
                    go_at_call 17
                    refine (HA2.out wc gd HF.out D.out).mono ?_
                    rintro e wc ⟨sv', tv', ov', rfl, hR⟩
                    have hse : IntsAt wc sv' [1, 0, 4 + c + m] := hR.seen
                    obtain ⟨so2, sc2, rfl, hs2c, hs2m⟩ := hse.cap
                    obtain ⟨eo2, ec2, rfl, _, _⟩ := (show Rd wc 6 tv' 0 [] from hR.late).cap
                    have hov : Rd wc 7 ov' M (slCells ((nx, mkDr 0 1 (.slice none 0 0) []) :: numbered (nx + 1) (4 + c + 1) Wd)) := by have := hR.out; rw [List.length_cons, numbered_len, Hm.out, Nat.add_comm, HM.out] at this; exact this
                    have Hse2 := Lib.hid hse
                    have Hov := Lib.hid hov
                    replace HF := Lib.hid (HF.out.trans' hR.fr)
                    try replace V := Lib.hid (hR.fr.heap V.out (fun f => f))
                    clear hR hov hse D
                    refine hK.out _ _ ?_ (fun hHeld' => ?_)
                    · show Sg338_0 _; rw [HSg338_0.out]; have hb := HF.out.heap HB5.out (fun f => f); exact ⟨cell_of_block hb rfl, cell_of_block hb rfl, cell_of_block hb rfl, cell_of_block hb rfl⟩
                    clear hK K hHeld
                    have hHeld := hHeld'
                    clear hHeld'
                    try simp only [Act.put, List.setIfInBounds_toArray, List.set_cons_zero, List.set_cons_succ]
                    refine heldp_take (v := ?_) 4 0 rfl (by kernel_rfl) (.inl ⟨by rfl, ?_⟩) hHeld ?_
                    rotate_left
                    · intro w hSw; replace hSw : Sg338_0 w := hSw; rw [HSg338_0.out] at hSw; (try dsimp only at hSw); first | (go_simp; done) | (go_simp; with_reducible rfl)
                    try simp only [Act.put, List.setIfInBounds_toArray, List.set_cons_zero, List.set_cons_succ]
                    refine heldp_take (v := ?_) 5 0 rfl (by kernel_rfl) (.inl ⟨by rfl, ?_⟩) hHeld ?_
                    rotate_left
                    · intro w hSw; replace hSw : Sg338_0 w := hSw; rw [HSg338_0.out] at hSw; (try dsimp only at hSw); first | (go_simp; done) | (go_simp; with_reducible rfl)
                    try simp only [Act.put, List.setIfInBounds_toArray, List.set_cons_zero, List.set_cons_succ]
                    refine heldp_free (v := ?_) 6 0 rfl (by kernel_rfl) (.inl ⟨by rfl, ?_⟩) hHeld ?_
                    rotate_left
                    · intro w hSw; clear hSw; first | (go_simp; done) | (go_simp; with_reducible rfl)
                    try simp only [Act.put, List.setIfInBounds_toArray, List.set_cons_zero, List.set_cons_succ]
                    refine heldp_call 7 0 rfl (by kernel_rfl) (fun K hK => ?_)
                    go_simp
                    have hfa : Fr no wc (wc.alloc (.cells #[.int .i64 0, .int .i64 0, .slice none 0 0, .slice none 0 0] 26)) := (Fr.refl no wc).alloc _
                    have hba := World.alloc_heap_new wc (.cells #[.int .i64 0, .int .i64 0, .slice none 0 0, .slice none 0 0] 26)
                    obtain ⟨gv, hgv⟩ : ∃ x, wc.heap.size = x := ⟨_, rfl⟩
                    have hgw : w5.heap.size ≤ gv := by rw [← hgv]; exact HF.out.size
                    obtain ⟨wc, hwc⟩ : ∃ x, wc.alloc (.cells #[.int .i64 0, .int .i64 0, .slice none 0 0, .slice none 0 0] 26) = x := ⟨_, rfl⟩
                    rw [hgv, hwc]
                    rw [hgv, hwc] at hba
                    rw [hwc] at hfa
                    replace HF := Lib.hid (HF.out.trans' hfa)
                    try replace D := Lib.hid (hfa.heap D.out (fun f => f))
                    try replace Hov := Lib.hid (Hov.out.fr hfa (fun _ _ _ f => f))
                    try (have hsx := Lib.hid (Rd.fr Hse2.out hfa (fun _ _ _ f => f)); clear Hse2; have Hse2 := hsx)
                    have V := Lib.hid hba
                    clear hba hfa hwc hgv
                    refine hK.out _ _ ?_ (fun hHeld' => ?_)
                    · show Sg338_0 _; rw [HSg338_0.out]; have hb := HF.out.heap HB5.out (fun f => f); exact ⟨cell_of_block hb rfl, cell_of_block hb rfl, cell_of_block hb rfl, cell_of_block hb rfl⟩
                    clear hK K hHeld
                    have hHeld := hHeld'
                    clear hHeld'
                    try simp only [Act.put, List.setIfInBounds_toArray, List.set_cons_zero, List.set_cons_succ]
                    refine heldp_call 8 1 rfl (by kernel_rfl) (fun K hK => ?_)
                    rw [if_pos (by rfl)]
                    obtain ⟨x1, x2, x3, x4, q1, q2, q3, q4, c1, c2, c3, c4, z1, z2, z3, z4, hb4, hf4⟩ := set4 V.out (.int .i64 2) (.int .i64 (nx + 1 + m)) (.slice so2 3 sc2) (.slice eo2 0 ec2)
                    have T2 := Lib.hid hb4
                    have hn1 := rd_ne (j := 2) Hse2.out (by simp) V.out rfl (fun off => by rcases off with _ | _ | off <;> simp)
                    have hn2 := rd_ne (j := 6) Hov.out (by have := HM.out; omega) V.out rfl (fun off => by simp)
                    have Hse3 : Hid (IntsAt x4 (.slice so2 3 sc2) [1, 0, 4 + c + m]) := Lib.hid (Rd.fr Hse2.out hf4 (fun g hg _ e => hn1 g hg e))
                    replace Hov := Lib.hid (Hov.out.fr hf4 (fun g hg _ e => hn2 g hg e))
                    have HG : Hid (Fr no w x4) := Lib.hid ((HFw.out.trans' HF.out).trans hf4 (fun i hi e => by have := HFw.out.size; omega))
                    clear hb4 hf4 hn1 hn2
                    go_simp
                    refine hK.out _ _ ?_ (fun hHeld' => ?_)
                    · show Sg338_1 _; rw [HSg338_1.out]; trivial
                    clear hK K hHeld
                    have hHeld := hHeld'
                    clear hHeld'
                    try simp only [Act.put, List.setIfInBounds_toArray, List.set_cons_zero, List.set_cons_succ]
                    refine heldp_take (v := ?_) 9 1 rfl (by kernel_rfl) (.inl ⟨by rfl, ?_⟩) hHeld ?_
                    rotate_left
                    · intro w hSw; replace hSw : Sg338_1 w := hSw; rw [HSg338_1.out] at hSw; (try dsimp only at hSw); first | (go_simp; done) | (go_simp; with_reducible rfl)
                    try simp only [Act.put, List.setIfInBounds_toArray, List.set_cons_zero, List.set_cons_succ]
                    refine heldp_done (by kernel_rfl) ?_
                    try clear hHeld
                    clear HSg338_0
                    try clear Sg338_0
                    clear HSg338_1
                    try clear Sg338_1
                    clear q1 q2 q3 q4 c1 c2 c3 c4 z1 z2 z3 z4
                    obtain ⟨go, offo, oc3, he3, hoc3, hocm, hcell⟩ := Hov.out.form (by have := HM.out; omega)
                    cases he3
                    have b0 : x4.cell? ⟨go, offo + 2, none⟩ = some (.int .i64 0) := hcell 2 _ rfl
                    have B0 := Lib.hid b0
                    clear hcell b0
                    go_wp2
                    go_meet
                    exact ⟨gv, so2, sc2, eo2, ec2, go, offo, oc3, rfl, rfl, hoc3, hocm, hs2m, hs2c, T2, Hse3, B0, HG⟩
                  · refine heldp_op 7 0 rfl (by kernel_rfl) (fun K hK => ?_)
                    go_simp
                    have hfa : Fr no wc (wc.alloc (.cells #[.int .i64 0, .int .i64 0, .slice none 0 0, .slice none 0 0] 26)) := (Fr.refl no wc).alloc _
                    have hba := World.alloc_heap_new wc (.cells #[.int .i64 0, .int .i64 0, .slice none 0 0, .slice none 0 0] 26)
                    obtain ⟨gv, hgv⟩ : ∃ x, wc.heap.size = x := ⟨_, rfl⟩
                    have hgw : w5.heap.size ≤ gv := by rw [← hgv]; exact HF.out.size
                    obtain ⟨wc, hwc⟩ : ∃ x, wc.alloc (.cells #[.int .i64 0, .int .i64 0, .slice none 0 0, .slice none 0 0] 26) = x := ⟨_, rfl⟩
                    rw [hgv, hwc]
                    rw [hgv, hwc] at hba
                    rw [hwc] at hfa
                    replace HF := Lib.hid (HF.out.trans' hfa)
                    try replace D := Lib.hid (hfa.heap D.out (fun f => f))
                    try replace Hov := Lib.hid (Hov.out.fr hfa (fun _ _ _ f => f))
                    try (have hsx := Lib.hid (Rd.fr Hse2.out hfa (fun _ _ _ f => f)); clear Hse2; have Hse2 := hsx)
                    have V := Lib.hid hba
                    clear hba hfa hwc hgv
                    refine hK.out _ _ ?_ (fun hHeld' => ?_)
                    · show Sg338_0 _; rw [HSg338_0.out]; have hb := HF.out.heap HB5.out (fun f => f); exact ⟨cell_of_block hb rfl, cell_of_block hb rfl, cell_of_block hb rfl, cell_of_block hb rfl⟩
                    clear hK K hHeld
                    have hHeld := hHeld'
                    clear hHeld'
                    try simp only [Act.put, List.setIfInBounds_toArray, List.set_cons_zero, List.set_cons_succ]
                    refine heldp_call 3 0 rfl (by kernel_rfl) (fun K hK => ?_)
                    go_simp
                    go_at_call 17
                    refine (HA2.out wc gd HF.out D.out).mono ?_
                    rintro e wc ⟨sv', tv', ov', rfl, hR⟩
                    have hse : IntsAt wc sv' [1, 0, 4 + c + m] := hR.seen
                    obtain ⟨so2, sc2, rfl, hs2c, hs2m⟩ := hse.cap
                    obtain ⟨eo2, ec2, rfl, _, _⟩ := (show Rd wc 6 tv' 0 [] from hR.late).cap
                    have hov : Rd wc 7 ov' M (slCells ((nx, mkDr 0 1 (.slice none 0 0) []) :: numbered (nx + 1) (4 + c + 1) Wd)) := by have := hR.out; rw [List.length_cons, numbered_len, Hm.out, Nat.add_comm, HM.out] at this; exact this
                    have Hse2 := Lib.hid hse
                    have Hov := Lib.hid hov
                    replace HF := Lib.hid (HF.out.trans' hR.fr)
                    try replace V := Lib.hid (hR.fr.heap V.out (fun f => f))
                    clear hR hov hse D
                    refine hK.out _ _ ?_ (fun hHeld' => ?_)
                    · show Sg338_0 _; rw [HSg338_0.out]; have hb := HF.out.heap HB5.out (fun f => f); exact ⟨cell_of_block hb rfl, cell_of_block hb rfl, cell_of_block hb rfl, cell_of_block hb rfl⟩
                    clear hK K hHeld
                    have hHeld := hHeld'
                    clear hHeld'
                    try simp only [Act.put, List.setIfInBounds_toArray, List.set_cons_zero, List.set_cons_succ]
                    refine heldp_take (v := ?_) 4 0 rfl (by kernel_rfl) (.inl ⟨by rfl, ?_⟩) hHeld ?_
                    rotate_left
                    · intro w hSw; replace hSw : Sg338_0 w := hSw; rw [HSg338_0.out] at hSw; (try dsimp only at hSw); first | (go_simp; done) | (go_simp; with_reducible rfl)
                    try simp only [Act.put, List.setIfInBounds_toArray, List.set_cons_zero, List.set_cons_succ]
                    refine heldp_take (v := ?_) 5 0 rfl (by kernel_rfl) (.inl ⟨by rfl, ?_⟩) hHeld ?_
                    rotate_left
                    · intro w hSw; replace hSw : Sg338_0 w := hSw; rw [HSg338_0.out] at hSw; (try dsimp only at hSw); first | (go_simp; done) | (go_simp; with_reducible rfl)
                    try simp only [Act.put, List.setIfInBounds_toArray, List.set_cons_zero, List.set_cons_succ]
                    refine heldp_free (v := ?_) 6 0 rfl (by kernel_rfl) (.inl ⟨by rfl, ?_⟩) hHeld ?_
                    rotate_left
                    · intro w hSw; clear hSw; first | (go_simp; done) | (go_simp; with_reducible rfl)
                    try simp only [Act.put, List.setIfInBounds_toArray, List.set_cons_zero, List.set_cons_succ]
                    refine heldp_call 8 1 rfl (by kernel_rfl) (fun K hK => ?_)
                    rw [if_pos (by rfl)]
                    obtain ⟨x1, x2, x3, x4, q1, q2, q3, q4, c1, c2, c3, c4, z1, z2, z3, z4, hb4, hf4⟩ := set4 V.out (.int .i64 2) (.int .i64 (nx + 1 + m)) (.slice so2 3 sc2) (.slice eo2 0 ec2)
                    have T2 := Lib.hid hb4
                    have hn1 := rd_ne (j := 2) Hse2.out (by simp) V.out rfl (fun off => by rcases off with _ | _ | off <;> simp)
                    have hn2 := rd_ne (j := 6) Hov.out (by have := HM.out; omega) V.out rfl (fun off => by simp)
                    have Hse3 : Hid (IntsAt x4 (.slice so2 3 sc2) [1, 0, 4 + c + m]) := Lib.hid (Rd.fr Hse2.out hf4 (fun g hg _ e => hn1 g hg e))
                    replace Hov := Lib.hid (Hov.out.fr hf4 (fun g hg _ e => hn2 g hg e))
                    have HG : Hid (Fr no w x4) := Lib.hid ((HFw.out.trans' HF.out).trans hf4 (fun i hi e => by have := HFw.out.size; omega))
                    clear hb4 hf4 hn1 hn2
                    go_simp
                    refine hK.out _ _ ?_ (fun hHeld' => ?_)
                    · show Sg338_1 _; rw [HSg338_1.out]; trivial
                    clear hK K hHeld
                    have hHeld := hHeld'
                    clear hHeld'
                    try simp only [Act.put, List.setIfInBounds_toArray, List.set_cons_zero, List.set_cons_succ]
                    refine heldp_take (v := ?_) 9 1 rfl (by kernel_rfl) (.inl ⟨by rfl, ?_⟩) hHeld ?_
                    rotate_left
                    · intro w hSw; replace hSw : Sg338_1 w := hSw; rw [HSg338_1.out] at hSw; (try dsimp only at hSw); first | (go_simp; done) | (go_simp; with_reducible rfl)
                    try simp only [Act.put, List.setIfInBounds_toArray, List.set_cons_zero, List.set_cons_succ]
                    refine heldp_done (by kernel_rfl) ?_
                    try clear hHeld
                    clear HSg338_0
                    try clear Sg338_0
                    clear HSg338_1
                    try clear Sg338_1
                    clear q1 q2 q3 q4 c1 c2 c3 c4 z1 z2 z3 z4
                    obtain ⟨go, offo, oc3, he3, hoc3, hocm, hcell⟩ := Hov.out.form (by have := HM.out; omega)
                    cases he3
                    have b0 : x4.cell? ⟨go, offo + 2, none⟩ = some (.int .i64 0) := hcell 2 _ rfl
                    have B0 := Lib.hid b0
                    clear hcell b0
                    go_wp2
                    go_meet
                    exact ⟨gv, so2, sc2, eo2, ec2, go, offo, oc3, rfl, rfl, hoc3, hocm, hs2m, hs2c, T2, Hse3, B0, HG⟩
                · refine heldp_op 7 0 rfl (by kernel_rfl) (fun K hK => ?_)
                  go_simp
                  have hfa : Fr no wc (wc.alloc (.cells #[.int .i64 0, .int .i64 0, .slice none 0 0, .slice none 0 0] 26)) := (Fr.refl no wc).alloc _
                  have hba := World.alloc_heap_new wc (.cells #[.int .i64 0, .int .i64 0, .slice none 0 0, .slice none 0 0] 26)
                  obtain ⟨gv, hgv⟩ : ∃ x, wc.heap.size = x := ⟨_, rfl⟩
                  have hgw : w5.heap.size ≤ gv := by rw [← hgv]; exact HF.out.size
                  obtain ⟨wc, hwc⟩ : ∃ x, wc.alloc (.cells #[.int .i64 0, .int .i64 0, .slice none 0 0, .slice none 0 0] 26) = x := ⟨_, rfl⟩
                  rw [hgv, hwc]
                  rw [hgv, hwc] at hba
                  rw [hwc] at hfa
                  replace HF := Lib.hid (HF.out.trans' hfa)
                  try replace D := Lib.hid (hfa.heap D.out (fun f => f))
                  try replace Hov := Lib.hid (Hov.out.fr hfa (fun _ _ _ f => f))
                  try (have hsx := Lib.hid (Rd.fr Hse2.out hfa (fun _ _ _ f => f)); clear Hse2; have Hse2 := hsx)
                  have V := Lib.hid hba
                  clear hba hfa hwc hgv
                  refine hK.out _ _ ?_ (fun hHeld' => ?_)
                  · show Sg338_0 _; rw [HSg338_0.out]; have hb := HF.out.heap HB5.out (fun f => f); exact ⟨cell_of_block hb rfl, cell_of_block hb rfl, cell_of_block hb rfl, cell_of_block hb rfl⟩
                  clear hK K hHeld
                  have hHeld := hHeld'
                  clear hHeld'
                  try simp only [Act.put, List.setIfInBounds_toArray, List.set_cons_zero, List.set_cons_succ]
                  refine heldp_call 2 0 rfl (by kernel_rfl) (fun K hK => ?_)
                  go_simp
                  have hfa : Fr no wc (wc.alloc (.cells #[.int .i64 0, .int .i64 0, .int .i64 1, .slice none 0 0, .string ⟨#[107]⟩, .string ⟨#[]⟩] 41)) := (Fr.refl no wc).alloc _
                  have hba := World.alloc_heap_new wc (.cells #[.int .i64 0, .int .i64 0, .int .i64 1, .slice none 0 0, .string ⟨#[107]⟩, .string ⟨#[]⟩] 41)
                  obtain ⟨gd, hgd⟩ : ∃ x, wc.heap.size = x := ⟨_, rfl⟩
                  obtain ⟨wc, hwc⟩ : ∃ x, wc.alloc (.cells #[.int .i64 0, .int .i64 0, .int .i64 1, .slice none 0 0, .string ⟨#[107]⟩, .string ⟨#[]⟩] 41) = x := ⟨_, rfl⟩
                  rw [hgd, hwc]
                  rw [hgd, hwc] at hba
                  rw [hwc] at hfa
                  replace HF := Lib.hid (HF.out.trans' hfa)
                  try replace V := Lib.hid (hfa.heap V.out (fun f => f))
                  have D := Lib.hid hba
                  clear hba hfa hwc hgd
                  refine hK.out _ _ ?_ (fun hHeld' => ?_)
                  · show Sg338_0 _; rw [HSg338_0.out]; have hb := HF.out.heap HB5.out (fun f => f); exact ⟨cell_of_block hb rfl, cell_of_block hb rfl, cell_of_block hb rfl, cell_of_block hb rfl⟩
                  clear hK K hHeld
                  have hHeld := hHeld'
                  clear hHeld'
                  try simp only [Act.put, List.setIfInBounds_toArray, List.set_cons_zero, List.set_cons_succ]
                  refine heldp_call 3 0 rfl (by kernel_rfl) (fun K hK => ?_)
                  go_simp
                  go_at_call 17
                  refine (HA2.out wc gd HF.out D.out).mono ?_
                  rintro e wc ⟨sv', tv', ov', rfl, hR⟩
                  have hse : IntsAt wc sv' [1, 0, 4 + c + m] := hR.seen
                  obtain ⟨so2, sc2, rfl, hs2c, hs2m⟩ := hse.cap
                  obtain ⟨eo2, ec2, rfl, _, _⟩ := (show Rd wc 6 tv' 0 [] from hR.late).cap
                  have hov : Rd wc 7 ov' M (slCells ((nx, mkDr 0 1 (.slice none 0 0) []) :: numbered (nx + 1) (4 + c + 1) Wd)) := by have := hR.out; rw [List.length_cons, numbered_len, Hm.out, Nat.add_comm, HM.out] at this; exact this
                  have Hse2 := Lib.hid hse
                  have Hov := Lib.hid hov
                  replace HF := Lib.hid (HF.out.trans' hR.fr)
                  try replace V := Lib.hid (hR.fr.heap V.out (fun f => f))
                  clear hR hov hse D
                  refine hK.out _ _ ?_ (fun hHeld' => ?_)
                  · show Sg338_0 _; rw [HSg338_0.out]; have hb := HF.out.heap HB5.out (fun f => f); exact ⟨cell_of_block hb rfl, cell_of_block hb rfl, cell_of_block hb rfl, cell_of_block hb rfl⟩
                  clear hK K hHeld
                  have hHeld := hHeld'
                  clear hHeld'
                  try simp only [Act.put, List.setIfInBounds_toArray, List.set_cons_zero, List.set_cons_succ]
                  refine heldp_take (v := ?_) 4 0 rfl (by kernel_rfl) (.inl ⟨by rfl, ?_⟩) hHeld ?_
                  rotate_left
                  · intro w hSw; replace hSw : Sg338_0 w := hSw; rw [HSg338_0.out] at hSw; (try dsimp only at hSw); first | (go_simp; done) | (go_simp; with_reducible rfl)
                  try simp only [Act.put, List.setIfInBounds_toArray, List.set_cons_zero, List.set_cons_succ]
                  refine heldp_take (v := ?_) 5 0 rfl (by kernel_rfl) (.inl ⟨by rfl, ?_⟩) hHeld ?_
                  rotate_left
                  · intro w hSw; replace hSw : Sg338_0 w := hSw; rw [HSg338_0.out] at hSw; (try dsimp only at hSw); first | (go_simp; done) | (go_simp; with_reducible rfl)
                  try simp only [Act.put, List.setIfInBounds_toArray, List.set_cons_zero, List.set_cons_succ]
                  refine heldp_free (v := ?_) 6 0 rfl (by kernel_rfl) (.inl ⟨by rfl, ?_⟩) hHeld ?_
                  rotate_left
                  · intro w hSw; clear hSw; first | (go_simp; done) | (go_simp; with_reducible rfl)
                  try simp only [Act.put, List.setIfInBounds_toArray, List.set_cons_zero, List.set_cons_succ]
                  refine heldp_call 8 1 rfl (by kernel_rfl) (fun K hK => ?_)
                  rw [if_pos (by rfl)]
                  obtain ⟨x1, x2, x3, x4, q1, q2, q3, q4, c1, c2, c3, c4, z1, z2, z3, z4, hb4, hf4⟩ := set4 V.out (.int .i64 2) (.int .i64 (nx + 1 + m)) (.slice so2 3 sc2) (.slice eo2 0 ec2)
                  have T2 := Lib.hid hb4
                  have hn1 := rd_ne (j := 2) Hse2.out (by simp) V.out rfl (fun off => by rcases off with _ | _ | off <;> simp)
                  have hn2 := rd_ne (j := 6) Hov.out (by have := HM.out; omega) V.out rfl (fun off => by simp)
                  have Hse3 : Hid (IntsAt x4 (.slice so2 3 sc2) [1, 0, 4 + c + m]) := Lib.hid (Rd.fr Hse2.out hf4 (fun g hg _ e => hn1 g hg e))
                  replace Hov := Lib.hid (Hov.out.fr hf4 (fun g hg _ e => hn2 g hg e))
                  have HG : Hid (Fr no w x4) := Lib.hid ((HFw.out.trans' HF.out).trans hf4 (fun i hi e => by have := HFw.out.size; omega))
                  clear hb4 hf4 hn1 hn2
                  go_simp
                  refine hK.out _ _ ?_ (fun hHeld' => ?_)
                  · show Sg338_1 _; rw [HSg338_1.out]; trivial
                  clear hK K hHeld
                  have hHeld := hHeld'
                  clear hHeld'
                  try simp only [Act.put, List.setIfInBounds_toArray, List.set_cons_zero, List.set_cons_succ]
                  refine heldp_take (v := ?_) 9 1 rfl (by kernel_rfl) (.inl ⟨by rfl, ?_⟩) hHeld ?_
                  rotate_left
                  · intro w hSw; replace hSw : Sg338_1 w := hSw; rw [HSg338_1.out] at hSw; (try dsimp only at hSw); first | (go_simp; done) | (go_simp; with_reducible rfl)
                  try simp only [Act.put, List.setIfInBounds_toArray, List.set_cons_zero, List.set_cons_succ]
                  refine heldp_done (by kernel_rfl) ?_
                  try clear hHeld
                  clear HSg338_0
                  try clear Sg338_0
                  clear HSg338_1
                  try clear Sg338_1
                  clear q1 q2 q3 q4 c1 c2 c3 c4 z1 z2 z3 z4
                  obtain ⟨go, offo, oc3, he3, hoc3, hocm, hcell⟩ := Hov.out.form (by have := HM.out; omega)
                  cases he3
                  have b0 : x4.cell? ⟨go, offo + 2, none⟩ = some (.int .i64 0) := hcell 2 _ rfl
                  have B0 := Lib.hid b0
                  clear hcell b0
                  go_wp2
                  go_meet
                  exact ⟨gv, so2, sc2, eo2, ec2, go, offo, oc3, rfl, rfl, hoc3, hocm, hs2m, hs2c, T2, Hse3, B0, HG⟩
              · refine heldp_op 7 0 rfl (by kernel_rfl) (fun K hK => ?_)
                go_simp
                have hfa : Fr no wc (wc.alloc (.cells #[.int .i64 0, .int .i64 0, .slice none 0 0, .slice none 0 0] 26)) := (Fr.refl no wc).alloc _
                have hba := World.alloc_heap_new wc (.cells #[.int .i64 0, .int .i64 0, .slice none 0 0, .slice none 0 0] 26)
                obtain ⟨gv, hgv⟩ : ∃ x, wc.heap.size = x := ⟨_, rfl⟩
                have hgw : w5.heap.size ≤ gv := by rw [← hgv]; exact HF.out.size
                obtain ⟨wc, hwc⟩ : ∃ x, wc.alloc (.cells #[.int .i64 0, .int .i64 0, .slice none 0 0, .slice none 0 0] 26) = x := ⟨_, rfl⟩
                rw [hgv, hwc]
                rw [hgv, hwc] at hba
                rw [hwc] at hfa
                replace HF := Lib.hid (HF.out.trans' hfa)
                try replace D := Lib.hid (hfa.heap D.out (fun f => f))
                try replace Hov := Lib.hid (Hov.out.fr hfa (fun _ _ _ f => f))
                try (have hsx := Lib.hid (Rd.fr Hse2.out hfa (fun _ _ _ f => f)); clear Hse2; have Hse2 := hsx)
                have V := Lib.hid hba
                clear hba hfa hwc hgv
                refine hK.out _ _ ?_ (fun hHeld' => ?_)
                · show Sg338_0 _; rw [HSg338_0.out]; have hb := HF.out.heap HB5.out (fun f => f); exact ⟨cell_of_block hb rfl, cell_of_block hb rfl, cell_of_block hb rfl, cell_of_block hb rfl⟩
                clear hK K hHeld
                have hHeld := hHeld'
                clear hHeld'
                try simp only [Act.put, List.setIfInBounds_toArray, List.set_cons_zero, List.set_cons_succ]
                refine heldp_call 1 0 rfl (by kernel_rfl) (fun K hK => ?_)
                go_simp
                go_at_call 26
                refine (show Calls _ _ _ _ (fun e w' => e = .returned (.agg #[.int .i64 0, .int .i64 0, .int .i64 1, .slice none 0 0, .string ⟨#[107]⟩, .string ⟨#[]⟩]) ∧ Fr no wc w') from law_D 0 1 none 0 0 [] wc).mono ?_
                rintro e wc ⟨rfl, hfd⟩
                replace HF := Lib.hid (HF.out.trans' hfd)
                try replace V := Lib.hid (hfd.heap V.out (fun f => f))
                clear hfd
                refine hK.out _ _ ?_ (fun hHeld' => ?_)
                · show Sg338_0 _; rw [HSg338_0.out]; have hb := HF.out.heap HB5.out (fun f => f); exact ⟨cell_of_block hb rfl, cell_of_block hb rfl, cell_of_block hb rfl, cell_of_block hb rfl⟩
                clear hK K hHeld
                have hHeld := hHeld'
                clear hHeld'
                try simp only [Act.put, List.setIfInBounds_toArray, List.set_cons_zero, List.set_cons_succ]
                refine heldp_call 2 0 rfl (by kernel_rfl) (fun K hK => ?_)
                go_simp
                have hfa : Fr no wc (wc.alloc (.cells #[.int .i64 0, .int .i64 0, .int .i64 1, .slice none 0 0, .string ⟨#[107]⟩, .string ⟨#[]⟩] 41)) := (Fr.refl no wc).alloc _
                have hba := World.alloc_heap_new wc (.cells #[.int .i64 0, .int .i64 0, .int .i64 1, .slice none 0 0, .string ⟨#[107]⟩, .string ⟨#[]⟩] 41)
                obtain ⟨gd, hgd⟩ : ∃ x, wc.heap.size = x := ⟨_, rfl⟩
                obtain ⟨wc, hwc⟩ : ∃ x, wc.alloc (.cells #[.int .i64 0, .int .i64 0, .int .i64 1, .slice none 0 0, .string ⟨#[107]⟩, .string ⟨#[]⟩] 41) = x := ⟨_, rfl⟩
                rw [hgd, hwc]
                rw [hgd, hwc] at hba
                rw [hwc] at hfa
                replace HF := Lib.hid (HF.out.trans' hfa)
                try replace V := Lib.hid (hfa.heap V.out (fun f => f))
                have D := Lib.hid hba
                clear hba hfa hwc hgd
                refine hK.out _ _ ?_ (fun hHeld' => ?_)
                · show Sg338_0 _; rw [HSg338_0.out]; have hb := HF.out.heap HB5.out (fun f => f); exact ⟨cell_of_block hb rfl, cell_of_block hb rfl, cell_of_block hb rfl, cell_of_block hb rfl⟩
                clear hK K hHeld
                have hHeld := hHeld'
                clear hHeld'
                try simp only [Act.put, List.setIfInBounds_toArray, List.set_cons_zero, List.set_cons_succ]
                refine heldp_call 3 0 rfl (by kernel_rfl) (fun K hK => ?_)
                go_simp
                go_at_call 17
                refine (HA2.out wc gd HF.out D.out).mono ?_
                rintro e wc ⟨sv', tv', ov', rfl, hR⟩
                have hse : IntsAt wc sv' [1, 0, 4 + c + m] := hR.seen
                obtain ⟨so2, sc2, rfl, hs2c, hs2m⟩ := hse.cap
                obtain ⟨eo2, ec2, rfl, _, _⟩ := (show Rd wc 6 tv' 0 [] from hR.late).cap
                have hov : Rd wc 7 ov' M (slCells ((nx, mkDr 0 1 (.slice none 0 0) []) :: numbered (nx + 1) (4 + c + 1) Wd)) := by have := hR.out; rw [List.length_cons, numbered_len, Hm.out, Nat.add_comm, HM.out] at this; exact this
                have Hse2 := Lib.hid hse
                have Hov := Lib.hid hov
                replace HF := Lib.hid (HF.out.trans' hR.fr)
                try replace V := Lib.hid (hR.fr.heap V.out (fun f => f))
                clear hR hov hse D
                refine hK.out _ _ ?_ (fun hHeld' => ?_)
                · show Sg338_0 _; rw [HSg338_0.out]; have hb := HF.out.heap HB5.out (fun f => f); exact ⟨cell_of_block hb rfl, cell_of_block hb rfl, cell_of_block hb rfl, cell_of_block hb rfl⟩
                clear hK K hHeld
                have hHeld := hHeld'
                clear hHeld'
                try simp only [Act.put, List.setIfInBounds_toArray, List.set_cons_zero, List.set_cons_succ]
                refine heldp_take (v := ?_) 4 0 rfl (by kernel_rfl) (.inl ⟨by rfl, ?_⟩) hHeld ?_
                rotate_left
                · intro w hSw; replace hSw : Sg338_0 w := hSw; rw [HSg338_0.out] at hSw; (try dsimp only at hSw); first | (go_simp; done) | (go_simp; with_reducible rfl)
                try simp only [Act.put, List.setIfInBounds_toArray, List.set_cons_zero, List.set_cons_succ]
                refine heldp_take (v := ?_) 5 0 rfl (by kernel_rfl) (.inl ⟨by rfl, ?_⟩) hHeld ?_
                rotate_left
                · intro w hSw; replace hSw : Sg338_0 w := hSw; rw [HSg338_0.out] at hSw; (try dsimp only at hSw); first | (go_simp; done) | (go_simp; with_reducible rfl)
                try simp only [Act.put, List.setIfInBounds_toArray, List.set_cons_zero, List.set_cons_succ]
                refine heldp_free (v := ?_) 6 0 rfl (by kernel_rfl) (.inl ⟨by rfl, ?_⟩) hHeld ?_
                rotate_left
                · intro w hSw; clear hSw; first | (go_simp; done) | (go_simp; with_reducible rfl)
                try simp only [Act.put, List.setIfInBounds_toArray, List.set_cons_zero, List.set_cons_succ]
                refine heldp_call 8 1 rfl (by kernel_rfl) (fun K hK => ?_)
                rw [if_pos (by rfl)]
                obtain ⟨x1, x2, x3, x4, q1, q2, q3, q4, c1, c2, c3, c4, z1, z2, z3, z4, hb4, hf4⟩ := set4 V.out (.int .i64 2) (.int .i64 (nx + 1 + m)) (.slice so2 3 sc2) (.slice eo2 0 ec2)
                have T2 := Lib.hid hb4
                have hn1 := rd_ne (j := 2) Hse2.out (by simp) V.out rfl (fun off => by rcases off with _ | _ | off <;> simp)
                have hn2 := rd_ne (j := 6) Hov.out (by have := HM.out; omega) V.out rfl (fun off => by simp)
                have Hse3 : Hid (IntsAt x4 (.slice so2 3 sc2) [1, 0, 4 + c + m]) := Lib.hid (Rd.fr Hse2.out hf4 (fun g hg _ e => hn1 g hg e))
                replace Hov := Lib.hid (Hov.out.fr hf4 (fun g hg _ e => hn2 g hg e))
                have HG : Hid (Fr no w x4) := Lib.hid ((HFw.out.trans' HF.out).trans hf4 (fun i hi e => by have := HFw.out.size; omega))
                clear hb4 hf4 hn1 hn2
                go_simp
                refine hK.out _ _ ?_ (fun hHeld' => ?_)
                · show Sg338_1 _; rw [HSg338_1.out]; trivial
                clear hK K hHeld
                have hHeld := hHeld'
                clear hHeld'
                try simp only [Act.put, List.setIfInBounds_toArray, List.set_cons_zero, List.set_cons_succ]
                refine heldp_take (v := ?_) 9 1 rfl (by kernel_rfl) (.inl ⟨by rfl, ?_⟩) hHeld ?_
                rotate_left
                · intro w hSw; replace hSw : Sg338_1 w := hSw; rw [HSg338_1.out] at hSw; (try dsimp only at hSw); first | (go_simp; done) | (go_simp; with_reducible rfl)
                try simp only [Act.put, List.setIfInBounds_toArray, List.set_cons_zero, List.set_cons_succ]
                refine heldp_done (by kernel_rfl) ?_
                try clear hHeld
                clear HSg338_0
                try clear Sg338_0
                clear HSg338_1
                try clear Sg338_1
                clear q1 q2 q3 q4 c1 c2 c3 c4 z1 z2 z3 z4
                obtain ⟨go, offo, oc3, he3, hoc3, hocm, hcell⟩ := Hov.out.form (by have := HM.out; omega)
                cases he3
                have b0 : x4.cell? ⟨go, offo + 2, none⟩ = some (.int .i64 0) := hcell 2 _ rfl
                have B0 := Lib.hid b0
                clear hcell b0
                go_wp2
                go_meet
                exact ⟨gv, so2, sc2, eo2, ec2, go, offo, oc3, rfl, rfl, hoc3, hocm, hs2m, hs2c, T2, Hse3, B0, HG⟩
            case rest =>
              obtain ⟨gv, so2, sc2, eo2, ec2, go, offo, oc3, rfl, rfl, hoc3, hocm, hs2m, hs2c, T2, Hse3, B0, HG⟩ := hcut
              have v0 := B0.out
              have v1 := cell_of_block (j := 3) T2.out rfl
              have v2 := cell_of_block (j := 2) T2.out rfl
              have hq : ((M : Int) == 1 + (i : Int) - (c : Int)) = true := by rw [beq_iff_eq]; have := HM.out; omega
              have hM0 : 0 < M := by have := HM.out; omega
              go_wp2_with fail
              have e4 : (4 : Int) + c + m = 4 + i := by omega
              have hs9 := Hse3.out
              rw [e4] at hs9
              have hfl := (Fr.refl no wc).alloc (.cells #[.int .i64 1, .int .i64 0, .int .i64 (4 + (i : Int))] 3)
              have hsm := ref_same (.slice so2 3 sc2) (.slice (some ⟨wc.heap.size, 0, none⟩) 3 3) [1, 0, 4 + (i : Int)] [1, 0, 4 + (i : Int)] (wc.alloc (.cells #[.int .i64 1, .int .i64 0, .int .i64 (4 + (i : Int))] 3)) (Rd.fr hs9 hfl (fun _ _ _ f => f)) (rd_blk (World.alloc_heap_new wc _))
              rw [vcov_refl, Bool.and_self] at hsm
              refine hsm.mono ?_
              have HG2 := Lib.hid (HG.out.trans' hfl)
              clear hsm hfl hs9
              rintro e w' ⟨rfl, rfl⟩
              go_wp2
              go_ret
              exact ⟨rfl, HG2.out⟩
end Go.Proofs.Ytdddgfienicaaaa
