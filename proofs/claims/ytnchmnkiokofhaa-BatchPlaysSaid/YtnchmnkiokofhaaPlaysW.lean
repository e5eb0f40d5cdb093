/- The walk of the law BatchPlays. -/
import Derived.Test.YtnchmnkiokofhaaClear
namespace Go.Proofs.Ytnchmnkiokofhaa
open Go.RowKit Go.Shelf Go.XL
set_option linter.unusedVariables false
set_option linter.unusedSimpArgs false
attribute [local go_sem] Oper.semAt_some

/-- In w, w0 lies as it lay; at b is a batch made since, and mv is a slice made since, apart from it. -/
def BM (w0 w : World) (b : Nat) (size room : Int) (xs : List Int) (mv : Value) (ys : List Int) : Prop :=
  ∃ G, Bat w b size room xs G ∧ (∀ g, G = some g → w0.heap.size ≤ g) ∧ w0.heap.size ≤ b ∧ Fr no w0 w ∧ Sl w 3 1 mv ys.length (ys.map (Value.int .i64)) ∧ (∀ g, mv.ownBlock = some g → w0.heap.size ≤ g ∧ g ≠ b ∧ G ≠ some g)

theorem BM.bs {w0 w : World} {b : Nat} {size room : Int} {xs : List Int} {mv : Value} {ys : List Int} (h : BM w0 w b size room xs mv ys) : BS w0 w b size room xs := by
  obtain ⟨G, h1, h2, h3, h4, _⟩ := h
  exact ⟨G, h1, h2, h3, h4⟩
theorem BM.of_bs {w0 w : World} {b : Nat} {size room : Int} {xs : List Int} (h : BS w0 w b size room xs) : BM w0 w b size room xs (.slice none 0 0) [] := by
  obtain ⟨G, h1, h2, h3, h4⟩ := h
  exact ⟨G, h1, h2, h3, h4, Sl.nil _ _ _, by simp [Value.ownBlock]⟩
theorem BM.nil {w0 w : World} {b : Nat} {size room : Int} {xs : List Int} {mv : Value} {ys : List Int} (h : BM w0 w b size room xs mv ys) : BM w0 w b size room xs (.slice none 0 0) [] := BM.of_bs h.bs
theorem BM.drewN {w0 w : World} {b : Nat} {size room : Int} {xs : List Int} {mv : Value} {ys : List Int} (h : BM w0 w b size room xs mv ys) (n : Nat) : BM w0 (w.drewN n) b size room xs mv ys := by
  obtain ⟨G, h1, h2, h3, h4, h5, h6⟩ := h
  exact ⟨G, h1, h2, h3, h4.drewN n, h5, h6⟩
theorem BM.cut {w0 w : World} {b : Nat} {size room : Int} {xs : List Int} {mv : Value} {ys : List Int} (h : BM w0 w b size room xs mv ys) {k : Nat} (hk : k ≤ ys.length) : BM w0 w b size room xs (cutFrom 1 mv k) (ys.drop k) := by
  obtain ⟨G, h1, h2, h3, h4, h5, h6⟩ := h
  have := h5.cutFrom hk
  rw [Nat.mul_one, ← List.map_drop] at this
  exact ⟨G, h1, h2, h3, h4, by rw [List.length_drop]; exact this, fun g hg => h6 g (by rwa [ownBlock_cutFrom] at hg)⟩
/-- m = append(m, x) -/
theorem BM.app {w0 w w' : World} {b : Nat} {size room : Int} {xs : List Int} {mv mv' : Value} {ys : List Int} {x : Int} (h : BM w0 w b size room xs mv ys) (hs : Sl w' 3 1 mv' (ys.length + 1) (ys.map (Value.int .i64) ++ [.int .i64 x])) (hf : Fr (fun k => mv.ownBlock = some k) w w')
    (ho : mv'.ownBlock = mv.ownBlock ∨ ∀ g, mv'.ownBlock = some g → w.heap.size ≤ g) : BM w0 w' b size room xs mv' (ys ++ [x]) := by
  obtain ⟨G, h1, h2, h3, h4, h5, h6⟩ := h
  have hl := h1.lt
  refine ⟨G, h1.fr hf (fun k hk e => ?_), h2, h3, h4.trans hf (fun i hi e => by have := (h6 i e).1; omega), by simpa using hs, fun g hg => ?_⟩
  · obtain ⟨_, e1, e2⟩ := h6 k e
    rcases hk with rfl | hk
    · exact e1 rfl
    · exact e2 hk
  · rcases ho with e | e
    · exact h6 g (by rw [← e]; exact hg)
    · have := e g hg
      have := h4.size
      exact ⟨by omega, by omega, fun e => by have := hl.2 g e; omega⟩

theorem bm_full {w0 w : World} {b : Nat} {size room : Int} {xs : List Int} {mv : Value} {ys : List Int} (h : BM w0 w b size room xs mv ys) :
    Calls Try.prog 13 #[.pointer (some ⟨b, 0, none⟩)] w fun e w' => e = .returned (.bool (decide (size ≤ xs.length))) ∧ BM w0 w' b size room xs mv ys := by
  obtain ⟨G, h1, h2, h3, h4, h5, h6⟩ := h
  refine (full_any b w _ _ _ _ h1).mono ?_
  rintro e w' ⟨he, q, rfl⟩
  exact ⟨he, G, h1, h2, h3, h4.drewN q, h5, h6⟩
theorem bm_add_full {w0 w : World} {b : Nat} {size room : Int} {xs : List Int} {mv : Value} {ys : List Int} (h : BM w0 w b size room xs mv ys) (x : Int) (hr : room ≤ xs.length) :
    Calls Try.prog 7 #[.pointer (some ⟨b, 0, none⟩), .int .i64 x] w fun e w' => e = .returned (.int .i64 6) ∧ BM w0 w' b size room xs mv ys := by
  obtain ⟨G, h1, h2, h3, h4, h5, h6⟩ := h
  refine (add_full b x w _ _ _ _ h1 hr).mono ?_
  rintro e w' ⟨he, q, rfl⟩
  exact ⟨he, G, h1, h2, h3, h4.drewN q, h5, h6⟩
theorem bm_add {w0 w : World} {b : Nat} {size room : Int} {xs : List Int} {mv : Value} {ys : List Int} (h : BM w0 w b size room xs mv ys) (x : Int) (hr : (xs.length : Int) < room) (h64 : room ≤ 64) :
    Calls Try.prog 7 #[.pointer (some ⟨b, 0, none⟩), .int .i64 x] w fun e w' => e = .returned (.int .i64 0) ∧ BM w0 w' b size room (xs ++ [x]) mv ys := by
  obtain ⟨G, h1, h2, h3, h4, h5, h6⟩ := h
  refine (add_ok b x w _ _ _ _ h1 hr h64).mono ?_
  rintro e w' ⟨he, G', hG, hB, hF, _⟩
  refine ⟨he, G', hB, ?_, h3, h4.trans hF (fun i hi e => ?_), h5.fr hF (fun g hg e => ?_), fun g hg => ?_⟩
  · rcases hG with rfl | hG
    · exact h2
    · exact fun g hg => by have := hG g hg; have := h4.size; omega
  · rcases e with rfl | e
    · omega
    · have := h2 i e; omega
  · obtain ⟨_, e1, e2⟩ := h6 g hg
    rcases e with rfl | e
    · exact e1 rfl
    · exact e2 e
  · obtain ⟨e0, e1, e2⟩ := h6 g hg
    refine ⟨e0, e1, fun e => ?_⟩
    rcases hG with rfl | hG
    · exact e2 e
    · have := hG g e; have := h5.lt g hg; omega
theorem bm_taken {w0 w : World} {b : Nat} {size room : Int} {xs : List Int} {mv : Value} {ys : List Int} (h : BM w0 w b size room xs mv ys) (q : Int) (hq : 0 < q) (k : Nat) (hk : (k : Int) = min q (min size xs.length)) (hsz : 0 ≤ size) (hxs : xs.length ≤ 1000) :
    Calls Try.prog 9 #[.pointer (some ⟨b, 0, none⟩), .int .i64 q] w fun e w' => ∃ ao cap, e = .returned (.tuple #[.slice ao k cap, .bool true]) ∧
      Sl w' 3 1 (.slice ao k cap) k ((xs.take k).map (Value.int .i64)) ∧ BM w0 w' b size room (xs.drop k) mv ys := by
  obtain ⟨G, h1, h2, h3, h4, h5, h6⟩ := h
  obtain ⟨qn, rfl⟩ : ∃ qn : Nat, q = qn := ⟨q.toNat, by omega⟩
  obtain ⟨m, hm⟩ : ∃ m : Nat, (m : Int) = min size xs.length := ⟨(min size (xs.length : Int)).toNat, by omega⟩
  have hmk : min m qn = k := by omega
  have ht := taken_some b qn w size room xs G h1 (by omega) m hm hsz hxs h1.lt.2
  rw [hmk] at ht
  refine ht.mono ?_
  rintro e w' ⟨ao, cap, he, hs, hg, hB, hF⟩
  exact ⟨ao, cap, he, hs, G, hB, h2, h3, h4.trans hF (fun i hi e => by omega), h5.fr hF (fun g hg e => (h6 g hg).2.1 e), h6⟩
theorem bm_taken_none {w0 w : World} {b : Nat} {size room : Int} {xs : List Int} {mv : Value} {ys : List Int} (h : BM w0 w b size room xs mv ys) (most : Int) (hm : most ≤ 0) :
    Calls Try.prog 9 #[.pointer (some ⟨b, 0, none⟩), .int .i64 most] w fun e w' => e = .returned (.tuple #[.slice none 0 0, .bool true]) ∧ BM w0 w' b size room xs mv ys := by
  obtain ⟨G, h1, h2, h3, h4, h5, h6⟩ := h
  refine (taken_none b most w hm).mono ?_
  rintro e w' ⟨he, hb⟩
  have hf := Fr.of_below hb
  exact ⟨he, G, h1.fr hf (fun _ _ f => f), h2, h3, h4.trans' hf, h5.fr hf (fun _ _ f => f), h6⟩
theorem bm_clear {w0 w : World} {b : Nat} {size room : Int} {xs : List Int} {mv : Value} {ys : List Int} (h : BM w0 w b size room xs mv ys) (hsz : 1 ≤ size) (hxs : xs.length ≤ 1000) :
    Calls Try.prog 10 #[.pointer (some ⟨b, 0, none⟩)] w fun e w' => e = .returned (.tuple #[]) ∧ BM w0 w' b size room [] mv ys := by
  obtain ⟨G, h1, h2, h3, h4, h5, h6⟩ := h
  refine (clear_any b w size room xs G h1 hsz hxs).mono ?_
  rintro e w' ⟨he, hB, hF⟩
  exact ⟨he, G, hB, h2, h3, h4.trans hF (fun i hi e => by omega), h5.fr hF (fun g hg e => (h6 g hg).2.1 e), h6⟩
/-- the twin, and the elder one beside it -/
theorem bm_twin {w0 w : World} {b : Nat} {size room : Int} {xs : List Int} {mv : Value} {ys : List Int} (h : BM w0 w b size room xs mv ys) (hxs : xs.length ≤ 1000) :
    Calls Try.prog 11 #[.pointer (some ⟨b, 0, none⟩)] w fun e w' => ∃ b', e = .returned (.pointer (some ⟨b', 0, none⟩)) ∧ b < b' ∧ BM w0 w' b' size room xs mv ys ∧ w0.heap.size ≤ b ∧ ((∀ G', Bat w' b' size room xs G' → G' ≠ some b) ∧ mv.ownBlock ≠ some b) ∧ ∃ G, Bat w' b size room xs G := by
  obtain ⟨G, h1, h2, h3, h4, h5, h6⟩ := h
  refine (twin_any b w size room xs G h1 hxs).mono ?_
  rintro e w' ⟨b', G', he, hb', hG', hB', hF⟩
  have hf := Fr.of_below hF
  have := h4.size
  refine ⟨b', he, by have := h1.lt.1; omega, ⟨G', hB', fun g hg => by have := hG' g hg; omega, by omega, h4.trans' hf, h5.fr hf (fun _ _ f => f), fun g hg => ⟨(h6 g hg).1, by have := h5.lt g hg; omega, fun e => by have := hG' g e; have := h5.lt g hg; omega⟩⟩, h3, ⟨fun G'' hB'' e => ?_, fun e => (h6 b e).2.1 rfl⟩, G, h1.fr hf (fun _ _ f => f)⟩
  obtain ⟨v1, q1, _, q2, _⟩ := hB'
  obtain ⟨v2, q3, _, q4, _⟩ := hB''
  rw [q1] at q3
  simp at q3
  subst q3
  have := hG' b (by rw [← q2, q4, e])
  have := h1.lt.1
  omega
/-- Clear at the elder one turns nothing of the twin -/
theorem bm_clear_other {w0 w : World} {b b' : Nat} {size room : Int} {xs zs : List Int} {mv : Value} {ys : List Int} {G : Option Nat} (h : BM w0 w b' size room xs mv ys) (hB : Bat w b size room zs G) (h0 : w0.heap.size ≤ b) (hne : b < b') (hsep : (∀ G', Bat w b' size room xs G' → G' ≠ some b) ∧ mv.ownBlock ≠ some b) (hsz : 1 ≤ size) (hxs : zs.length ≤ 1000) :
    Calls Try.prog 10 #[.pointer (some ⟨b, 0, none⟩)] w fun e w' => e = .returned (.tuple #[]) ∧ BM w0 w' b' size room xs mv ys := by
  obtain ⟨G', h1, h2, h3, h4, h5, h6⟩ := h
  refine (clear_any b w size room zs G hB hsz hxs).mono ?_
  rintro e w' ⟨he, _, hF⟩
  refine ⟨he, G', h1.fr hF (fun k hk e => ?_), h2, h3, h4.trans hF (fun i hi e => by omega), h5.fr hF (fun g hg e => hsep.2 (by rw [← e]; exact hg)), h6⟩
  rcases hk with rfl | hk
  · omega
  · exact hsep.1 G' h1 (by rw [← e]; exact hk)

/-- the cells of a row of acts -/
def actCells (l : List (Int × Int)) : List Value := l.flatMap fun x => [.int .i64 x.1, .int .i64 x.2]
theorem actCells_get (l : List (Int × Int)) (k : Nat) (x : Int × Int) (h : l[k]? = some x) : (actCells l)[k * 2]? = some (.int .i64 x.1) ∧ (actCells l)[k * 2 + 1]? = some (.int .i64 x.2) := by
  induction l generalizing k with
  | nil => simp at h
  | cons y l ih =>
    cases k with
    | zero => simp at h; subst h; simp [actCells]
    | succ k =>
      have := ih k (by simpa using h)
      simpa [actCells, Nat.add_mul] using this

set_option maxRecDepth 100000 in
set_option maxHeartbeats 2000000 in
theorem plays_any (size room : Int) (v : Value) (n : Nat) (l : List (Int × Int)) (w : World) (hv : Rd w 2 v n (actCells l)) (hln : l.length = n) :
    Calls Try.prog 4 #[.int .i64 size, .int .i64 room, v] w fun e w' => e = .returned (.bool true) ∧ Below w.heap.size w w' := by
  obtain ⟨ao, cap, rfl, hcap, hmx⟩ := hv.cap
  have Hv := Lib.hid hv
  have Hl := Lib.hid hln
  clear hv hln
  go_enter Try.func4, Try.ntmps4
  go_wp2_with fail
  refine (known_any w).mono ?_
  rintro e w1 ⟨rfl, hb1⟩
  have HB1 := Lib.hid hb1
  clear hb1
  by_cases hn : 200 < n
  · go_wp2
    go_ret
    exact ⟨rfl, HB1.out⟩
  · go_wp2_with fail
    by_cases hbad : room < 1 ∨ 64 < room ∨ size < 1 ∨ room < size
    · refine (new_bad size room w1 hbad).mono ?_
      rintro e w2 ⟨rfl, rfl⟩
      by_cases b1 : size < 1
      · go_wp2
        go_ret
        exact ⟨rfl, HB1.out⟩
      · by_cases b2 : room < 1
        · go_wp2
          go_ret
          exact ⟨rfl, HB1.out⟩
        · by_cases b3 : 64 < room
          · go_wp2
            go_ret
            exact ⟨rfl, HB1.out⟩
          · have b4 : room < size := by omega
            go_wp2
            go_ret
            exact ⟨rfl, HB1.out⟩
    · have g1 : 1 ≤ room := by omega
      have g2 : room ≤ 64 := by omega
      have g3 : 1 ≤ size := by omega
      have g4 : size ≤ room := by omega
      clear hbad
      refine (new_ok size room w1 g1 g2 g3 g4).mono ?_
      rintro e w2 ⟨rfl, hw2⟩
      have hB := BM.of_bs (BS.new (Fr.of_below HB1.out) size room)
      rw [hw2] at hB
      generalize w1.heap.size = b at *
      have HB := Lib.hid hB
      clear hB hw2
      go_wp2_with fail
      go_loopw [7, 9, 10] (fun bv mv i wr => ∃ (b : Nat) (ys : List Int) (mo : Option Addr) (mc k : Nat), k ≤ n ∧ bv = .pointer (some ⟨b, 0, none⟩) ∧ mv = .slice mo ys.length mc ∧ i = .int .i64 k ∧ (ys.length : Int) ≤ room ∧ BM w wr b size room ys (.slice mo ys.length mc) ys) (fun _ _ i _ => n - (intOf i).toNat)
      case atStart => exact ⟨b, [], none, 0, 0, Nat.zero_le _, rfl, rfl, rfl, by simp; omega, HB.out⟩
      case round =>
        obtain ⟨b, ys, mo, mc, k, hk, rfl, rfl, rfl, hyr, hBM⟩ := hrel
        have hys : ys.length ≤ 64 := by omega
        have hbw : Below w.heap.size w wr := hBM.bs.below
        have HM := Lib.hid hBM
        clear hBM
        by_cases hkn : k < n
        · obtain ⟨g, off, cap', he, _, _, hx⟩ := Hv.out.form (by omega)
          cases he
          obtain ⟨⟨op, x⟩, hxk⟩ : ∃ x, l[k]? = some x := ⟨l[k]'(by rw [Hl.out]; exact hkn), by simp⟩
          obtain ⟨hx1, hx2⟩ := actCells_get l k _ hxk
          have hc1 : wr.cell? ⟨g, off + k * 2, none⟩ = some (.int .i64 op) := (Fr.of_below hbw).cell (hx _ _ hx1) (fun f => f)
          have hc2 : wr.cell? ⟨g, off + k * 2 + 1, none⟩ = some (.int .i64 x) := (Fr.of_below hbw).cell (by have := hx _ _ hx2; rwa [← Nat.add_assoc] at this) (fun f => f)
          clear hx hx1 hx2 hbw hxk
          go_upto_block 2 with (fail)
          go_cut [7, 9] (fun bv mv wx => ∃ (b : Nat) (ys : List Int) (mo : Option Addr) (mc : Nat), bv = .pointer (some ⟨b, 0, none⟩) ∧ mv = .slice mo ys.length mc ∧ (ys.length : Int) ≤ room ∧ BM w wx b size room ys (.slice mo ys.length mc) ys)
          case first =>
            clear hc1 hc2
            by_cases o1 : op = 1
            · subst o1
              by_cases hf : room ≤ ys.length
              · go_wp2_with fail
                refine (bm_add_full HM.out x hf).mono ?_
                rintro e w3 ⟨rfl, h3⟩
                have H3 := Lib.hid h3
                clear h3
                go_wp2
                go_meet
                exact ⟨b, ys, mo, mc, rfl, rfl, hyr, H3.out⟩
              · go_wp2_with fail
                refine (bm_add HM.out x (by omega) g2).mono ?_
                rintro e w3 ⟨rfl, h3⟩
                obtain ⟨i0, hi, hz0, hz1, hz2⟩ := info_parts Try.info3
                have hS : Sl w3 3 1 (.slice mo ys.length mc) ys.length (ys.map (Value.int .i64)) := by obtain ⟨_, _, _, _, _, h5, _⟩ := h3; exact h5
                have H3 := Lib.hid h3
                have HS := Lib.hid hS
                clear h3 hS
                go_wp2_with (at_builtin; refine wpList_append_one w3 (.int .i64 x) 3 rfl _ _ 30 rfl 3 i0 (.int .i64 0) 8 Try.underlying30 hi hz0 hz1 hz2 rfl _ ys.length _ rfl HS.out rfl rfl (by unfold maxLen; omega) (by omega) ?_)
                intro ao' cap2 w4 hs4 hf4 ho4 hk4
                have h4 := H3.out.app hs4 hf4 ho4
                have H4 := Lib.hid h4
                clear hs4 hf4 ho4 hk4 h4 hz0 hz1 hz2 hi
                go_wp2
                go_meet
                exact ⟨b, ys ++ [x], ao', cap2, rfl, by simp, by simp; omega, by simpa using H4.out⟩
            · by_cases o2 : op = 2
              · subst o2
                have key : ∃ K : Nat, (K : Int) = min (max x 0) (min size ys.length) := ⟨(min (max x 0) (min size (ys.length : Int))).toNat, by omega⟩
                obtain ⟨K, hK⟩ := key
                have hKl : K ≤ ys.length := by omega
                have ht : Calls Try.prog 9 #[.pointer (some ⟨b, 0, none⟩), .int .i64 x] wr fun e w' => ∃ ao cap, e = .returned (.tuple #[.slice ao K cap, .bool true]) ∧
                    Sl w' 3 1 (.slice ao K cap) K ((ys.take K).map (Value.int .i64)) ∧ BM w w' b size room (ys.drop K) (.slice mo ys.length mc) ys := by
                  by_cases hx0 : x ≤ 0
                  · obtain rfl : K = 0 := by omega
                    refine (bm_taken_none HM.out x hx0).mono ?_
                    rintro e w3 ⟨rfl, h3⟩
                    exact ⟨none, 0, rfl, by simpa using Sl.nil _ _ _, by simpa using h3⟩
                  · exact bm_taken HM.out x (by omega) K (by omega) (by omega) (by omega)
                have hmin : (if (ys.length : Int) < (if size < (if x < 0 then 0 else x) then size else if x < 0 then 0 else x) then (ys.length : Int) else if size < (if x < 0 then 0 else x) then size else if x < 0 then 0 else x) = K := by
                  rw [hK]
                  by_cases e1 : x < 0
                  · simp only [e1, if_true]; by_cases e2 : size < 0 <;> simp only [e2, if_true, if_false] <;> split <;> omega
                  · simp only [e1, if_false]; by_cases e2 : size < x <;> simp only [e2, if_true, if_false] <;> split <;> omega
                have HT := Lib.hid ht
                have HK := Lib.hid hK
                clear ht hK
                go_wp2_with fail
                refine HT.out.mono ?_
                rintro e w3 ⟨ao3, cap3, rfl, hs3, h3⟩
                have H3 := Lib.hid h3
                have HS3 := Lib.hid hs3
                clear h3 hs3
                clear HT
                go_wp2_with fail
                all_goals
                  clear hmin
                  go_loopw [16] (fun jv wr => ∃ (j q : Nat), j ≤ K ∧ jv = .int .i64 j ∧ wr = w3.drewN q) (fun jv _ => K - (intOf jv).toNat)
                  case atStart => exact ⟨0, 0, Nat.zero_le _, rfl, rfl⟩
                  case round =>
                    obtain ⟨j, q, hj, rfl, rfl⟩ := hrel
                    by_cases hjk : j < K
                    · have hS : Sl w3 3 1 (.slice mo ys.length mc) ys.length (ys.map (Value.int .i64)) := by obtain ⟨_, _, _, _, _, h5, _⟩ := H3.out; exact h5
                      obtain ⟨g4, o4, c4, s4, he4, _, _, hg4, _, hx4⟩ := hS.form (by omega)
                      cases he4
                      obtain ⟨g5, o5, c5, s5, he5, _, _, hg5, _, hx5⟩ := HS3.out.form (by omega)
                      cases he5
                      obtain ⟨y, hy⟩ : ∃ y, ys[j]? = some y := ⟨ys[j]'(by omega), by simp⟩
                      have hc4 : w3.cell? ⟨g4, o4 + j, none⟩ = some (.int .i64 y) := cell_of_block hg4 (hx4 j _ (by simp [hy]))
                      have hc5 : w3.cell? ⟨g5, o5 + j, none⟩ = some (.int .i64 y) := cell_of_block hg5 (hx5 j _ (by simp [List.getElem?_take, hjk, hy]))
                      have hjy : j < ys.length := by omega
                      have hj1 : (j : Int) < K := by omega
                      have hj2 : (j : Int) < ys.length := by omega
                      clear hg4 hx4 hg5 hx5 hS hy
                      generalize ys.length = L at *
                      go_wp2
                      go_quiet (fail)
                      go_wp2
                      go_roundw
                      case rel => exact ⟨j + 1, _, by omega, by go_num, rfl⟩
                      case measure => simp [intOf]; omega
                    · obtain rfl : j = K := by omega
                      obtain ⟨i0, hi, hz0, hz1, hz2⟩ := info_parts Try.info3
                      obtain ⟨ao1, hcut, hsl, hsl2⟩ := run_cutFrom (P := Try.prog) 30 3 i0 1 Try.underlying30 hi hz1 .i64 mo ys.length mc j hKl j rfl
                      have hf := H3.out.cut (k := j) hKl
                      rw [hcut] at hf
                      have HF := Lib.hid hf
                      have hjl : (j : Int) ≤ ys.length := by omega
                      clear hcut hi hz0 hz1 hz2 hf
                      go_wp2
                      go_meet
                      exact ⟨b, ys.drop j, ao1, mc - j, rfl, by simp, by simp; omega, by simpa using HF.out.drewN q⟩
              · by_cases o3 : op = 3
                · subst o3
                  go_wp2_with fail
                  refine (bm_clear HM.out g3 (by omega)).mono ?_
                  rintro e w3 ⟨rfl, h3⟩
                  have H3 := Lib.hid h3.nil
                  clear h3
                  go_wp2
                  go_meet
                  exact ⟨b, [], none, 0, rfl, rfl, by simp; omega, H3.out⟩
                · by_cases o4 : op = 4
                  · subst o4
                    go_wp2_with fail
                    refine (bm_twin HM.out (by omega)).mono ?_
                    rintro e w3 ⟨b2, rfl, hbb, h3, h3b, h3c, G, h3d⟩
                    have H3 := Lib.hid h3
                    have H3c := Lib.hid h3c
                    have H3d := Lib.hid h3d
                    clear h3 h3c h3d
                    go_wp2_with fail
                    refine (bm_clear_other H3.out H3d.out h3b hbb H3c.out g3 (by omega)).mono ?_
                    rintro e w4 ⟨rfl, h4⟩
                    have H4 := Lib.hid h4
                    clear h4
                    go_wp2
                    go_meet
                    exact ⟨b2, ys, mo, mc, rfl, rfl, hyr, H4.out⟩
                  · go_wp2
                    go_meet
                    exact ⟨b, ys, mo, mc, rfl, rfl, hyr, HM.out⟩
          case rest =>
            obtain ⟨b', ys', mo', mc', rfl, rfl, hyr', hBM'⟩ := hcut
            clear HM hyr hys
            have HM := Lib.hid hBM'
            clear hBM' hc1 hc2
            have hys' : ys'.length ≤ 64 := by omega
            cases ys' with
            | nil =>
              go_wp2_with fail
              refine (bs_first_none HM.out.bs).mono ?_
              rintro e w3 ⟨rfl, rfl⟩
              go_wp2_with fail
              refine (bs_len HM.out.bs).mono ?_
              rintro e w3 ⟨rfl, rfl⟩
              go_wp2_with fail
              refine (bm_full HM.out).mono ?_
              rintro e w3 ⟨rfl, h3⟩
              have H3 := Lib.hid h3
              clear h3
              have hsz0 : ¬ size ≤ 0 := by omega
              go_wp2
              go_roundw
              case rel => exact ⟨b', [], mo', mc', k + 1, by omega, rfl, rfl, by go_num, hyr', H3.out⟩
              case measure => simp [intOf]; omega
            | cons y ys' =>
              go_wp2_with fail
              refine (bs_first_some HM.out.bs).mono ?_
              rintro e w3 ⟨rfl, rfl⟩
              go_wp2_with fail
              refine (bs_len HM.out.bs).mono ?_
              rintro e w3 ⟨rfl, rfl⟩
              go_wp2_with fail
              refine (bm_full HM.out).mono ?_
              rintro e w3 ⟨rfl, h3⟩
              have hS : Sl w3 3 1 (.slice mo' (y :: ys').length mc') (y :: ys').length ((y :: ys').map (Value.int .i64)) := by obtain ⟨_, _, _, _, _, h5, _⟩ := h3; exact h5
              obtain ⟨g4, o4, c4, s4, he4, _, _, hg4, _, hx4⟩ := hS.form (by simp)
              cases he4
              have hcy : w3.cell? ⟨g4, o4, none⟩ = some (.int .i64 y) := cell_of_block hg4 (hx4 0 _ (by simp))
              have H3 := Lib.hid h3
              have hl1 : 0 < (y :: ys').length := by simp
              clear h3 hS hg4 hx4
              have hgen : ∃ L, (y :: ys').length = L := ⟨_, rfl⟩
              go_wp2
              go_roundw
              case rel => exact ⟨b', y :: ys', _, mc', k + 1, by omega, rfl, rfl, by go_num, hyr', H3.out⟩
              case measure => simp [intOf]; omega
        · obtain rfl : k = n := by omega
          go_wp2
          go_ret
          exact ⟨rfl, HM.out.bs.below⟩
end Go.Proofs.Ytnchmnkiokofhaa
