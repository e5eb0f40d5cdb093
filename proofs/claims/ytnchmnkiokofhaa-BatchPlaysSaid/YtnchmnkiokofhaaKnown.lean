/- A batch that the law itself has made; the law's own sample. -/
import Derived.Test.YtnchmnkiokofhaaTaken
namespace Go.Proofs.Ytnchmnkiokofhaa
open Go.RowKit Go.Shelf Go.XL
set_option linter.unusedVariables false
set_option linter.unusedSimpArgs false
attribute [local go_sem] Oper.semAt_some

/-- In w, w0 lies as it lay, and at b is a batch made since. -/
def BS (w0 w : World) (b : Nat) (size room : Int) (xs : List Int) : Prop :=
  ∃ G, Bat w b size room xs G ∧ (∀ g, G = some g → w0.heap.size ≤ g) ∧ w0.heap.size ≤ b ∧ Fr no w0 w

theorem BS.drewN {w0 w : World} {b : Nat} {size room : Int} {xs : List Int} (h : BS w0 w b size room xs) (n : Nat) : BS w0 (w.drewN n) b size room xs := by
  obtain ⟨G, h1, h2, h3, h4⟩ := h
  exact ⟨G, h1, h2, h3, h4.drewN n⟩
theorem BS.below {w0 w : World} {b : Nat} {size room : Int} {xs : List Int} (h : BS w0 w b size room xs) : Below w0.heap.size w0 w := by
  obtain ⟨G, h1, h2, h3, h4⟩ := h
  exact h4.below
theorem BS.new {w0 w : World} (h : Fr no w0 w) (size room : Int) : BS w0 (w.alloc (.cells #[.int .i64 size, .int .i64 room, .slice none 0 0] 42)) w.heap.size size room [] :=
  ⟨none, ⟨_, World.alloc_heap_new w _, Sl.nil _ _ _, rfl, by simp⟩, by simp, h.size, h.alloc _⟩

theorem bs_full {w0 w : World} {b : Nat} {size room : Int} {xs : List Int} (h : BS w0 w b size room xs) :
    Calls Try.prog 13 #[.pointer (some ⟨b, 0, none⟩)] w fun e w' => e = .returned (.bool (decide (size ≤ xs.length))) ∧ BS w0 w' b size room xs := by
  obtain ⟨G, h1, h2, h3, h4⟩ := h
  refine (full_any b w _ _ _ _ h1).mono ?_
  rintro e w' ⟨he, q, rfl⟩
  exact ⟨he, G, h1, h2, h3, h4.drewN q⟩
theorem bs_len {w0 w : World} {b : Nat} {size room : Int} {xs : List Int} (h : BS w0 w b size room xs) :
    Calls Try.prog 8 #[.pointer (some ⟨b, 0, none⟩)] w fun e w' => e = .returned (.int .i64 xs.length) ∧ w = w' := by
  obtain ⟨G, h1, h2, h3, h4⟩ := h
  exact len_any b w _ _ _ _ h1
theorem bs_first_none {w0 w : World} {b : Nat} {size room : Int} (h : BS w0 w b size room []) :
    Calls Try.prog 12 #[.pointer (some ⟨b, 0, none⟩)] w fun e w' => e = .returned (.tuple #[.int .i64 0, .bool false]) ∧ w = w' := by
  obtain ⟨G, h1, h2, h3, h4⟩ := h
  exact first_none b w _ _ _ h1
theorem bs_first_some {w0 w : World} {b : Nat} {size room : Int} {x : Int} {xs : List Int} (h : BS w0 w b size room (x :: xs)) :
    Calls Try.prog 12 #[.pointer (some ⟨b, 0, none⟩)] w fun e w' => e = .returned (.tuple #[.int .i64 x, .bool true]) ∧ w = w' := by
  obtain ⟨G, h1, h2, h3, h4⟩ := h
  exact first_some b w _ _ _ _ _ h1
theorem bs_add_full {w0 w : World} {b : Nat} {size room : Int} {xs : List Int} (h : BS w0 w b size room xs) (x : Int) (hr : room ≤ xs.length) :
    Calls Try.prog 7 #[.pointer (some ⟨b, 0, none⟩), .int .i64 x] w fun e w' => e = .returned (.int .i64 6) ∧ BS w0 w' b size room xs := by
  obtain ⟨G, h1, h2, h3, h4⟩ := h
  refine (add_full b x w _ _ _ _ h1 hr).mono ?_
  rintro e w' ⟨he, q, rfl⟩
  exact ⟨he, G, h1, h2, h3, h4.drewN q⟩
theorem bs_add {w0 w : World} {b : Nat} {size room : Int} {xs : List Int} (h : BS w0 w b size room xs) (x : Int) (hr : (xs.length : Int) < room) (h64 : room ≤ 64) :
    Calls Try.prog 7 #[.pointer (some ⟨b, 0, none⟩), .int .i64 x] w fun e w' => e = .returned (.int .i64 0) ∧ BS w0 w' b size room (xs ++ [x]) := by
  obtain ⟨G, h1, h2, h3, h4⟩ := h
  refine (add_ok b x w _ _ _ _ h1 hr h64).mono ?_
  rintro e w' ⟨he, G', hG, hB, hF, _⟩
  refine ⟨he, G', hB, ?_, h3, h4.trans hF (fun i hi e => ?_)⟩
  · rcases hG with rfl | hG
    · exact h2
    · exact fun g hg => by have := hG g hg; have := h4.size; omega
  · rcases e with rfl | e
    · omega
    · have := h2 i e; omega
/-- Taken: a slice of its own -/
theorem bs_taken {w0 w : World} {b : Nat} {size room : Int} {xs : List Int} (h : BS w0 w b size room xs) (q : Nat) (hq : 0 < q) (m : Nat) (hm : (m : Int) = min size xs.length) (hsz : 0 ≤ size) (hxs : xs.length ≤ 1000) :
    Calls Try.prog 9 #[.pointer (some ⟨b, 0, none⟩), .int .i64 q] w fun e w' => ∃ ao cap, e = .returned (.tuple #[.slice ao (min m q) cap, .bool true]) ∧
      Sl w' 3 1 (.slice ao (min m q) cap) (min m q) ((xs.take (min m q)).map (Value.int .i64)) ∧ BS w0 w' b size room (xs.drop (min m q)) := by
  obtain ⟨G, h1, h2, h3, h4⟩ := h
  refine (taken_some b q w size room xs G h1 hq m hm hsz hxs h1.lt.2).mono ?_
  rintro e w' ⟨ao, cap, he, hs, hg, hB, hF⟩
  exact ⟨ao, cap, he, hs, G, hB, h2, h3, h4.trans hF (fun i hi e => by omega)⟩
theorem bs_taken_none {w0 w : World} {b : Nat} {size room : Int} {xs : List Int} (h : BS w0 w b size room xs) (most : Int) (hm : most ≤ 0) :
    Calls Try.prog 9 #[.pointer (some ⟨b, 0, none⟩), .int .i64 most] w fun e w' => e = .returned (.tuple #[.slice none 0 0, .bool true]) ∧ BS w0 w' b size room xs := by
  obtain ⟨G, h1, h2, h3, h4⟩ := h
  refine (taken_none b most w hm).mono ?_
  rintro e w' ⟨he, hb⟩
  have hf := Fr.of_below hb
  exact ⟨he, G, h1.fr hf (fun _ _ f => f), h2, h3, h4.trans' hf⟩

set_option maxHeartbeats 1000000 in
theorem known_any (w : World) :
    Calls Try.prog 5 #[] w fun e w' => e = .returned (.bool true) ∧ Below w.heap.size w w' := by
  have hB := BS.new (Fr.refl no w) 2 3
  have HB := Lib.hid hB
  clear hB
  go_enter Try.func5, Try.ntmps5
  go_wp2_with fail
  refine (new_ok 2 3 w (by decide) (by decide) (by decide) (by decide)).mono ?_
  rintro e w1 ⟨rfl, rfl⟩
  go_wp2_with fail
  refine (new_bad 4 3 _ (by decide)).mono ?_
  rintro e w1 ⟨rfl, rfl⟩
  go_wp2_with fail
  refine (bs_full HB.out).mono ?_
  rintro e w1 ⟨rfl, h1⟩
  have H1 := Lib.hid h1
  clear h1
  go_wp2_with fail
  refine (bs_add H1.out 7 (by decide) (by decide)).mono ?_
  rintro e w2 ⟨rfl, h2⟩
  have H2 := Lib.hid h2
  clear h2
  go_wp2_with fail
  refine (bs_add H2.out 8 (by decide) (by decide)).mono ?_
  rintro e w3 ⟨rfl, h3⟩
  have H3 := Lib.hid h3
  clear h3
  go_wp2_with fail
  refine (bs_add H3.out 9 (by decide) (by decide)).mono ?_
  rintro e w4 ⟨rfl, h4⟩
  have H4 := Lib.hid h4
  clear h4
  go_wp2_with fail
  refine (bs_add_full H4.out 1 (by decide)).mono ?_
  rintro e w5 ⟨rfl, h5⟩
  have H5 := Lib.hid h5
  clear h5
  go_wp2_with fail
  refine (bs_first_some H5.out).mono ?_
  rintro e w6 ⟨rfl, rfl⟩
  go_wp2_with fail
  refine (bs_full H5.out).mono ?_
  rintro e w6 ⟨rfl, h6⟩
  have H6 := Lib.hid h6
  clear h6
  go_wp2_with fail
  refine (bs_taken H6.out 9 (by decide) 2 (by decide) (by decide) (by decide)).mono ?_
  rintro e w7 ⟨ao, cap, rfl, h7, h8⟩
  obtain ⟨g, off, cap, cs, he, hn, hm, hg, _, hx⟩ := h7.form (by decide)
  cases he
  have c1 : w7.cell? ⟨g, off + 1, none⟩ = some (.int .i64 8) := cell_of_block hg (hx 1 (.int .i64 8) rfl)
  have H8 := Lib.hid h8
  clear h7 h8 hg hx
  go_wp2_with fail
  refine (bs_len H8.out).mono ?_
  rintro e w8 ⟨rfl, rfl⟩
  go_wp2
  go_ret
  exact ⟨rfl, H8.out.below⟩
end Go.Proofs.Ytnchmnkiokofhaa
