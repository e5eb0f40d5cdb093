/- The laws' own words for vectors: known, up, few. -/
import Derived.Test.YtgcjnhocoklfbaaGreatDoorVecP
import Derived.Test.YtgcjnhocoklfbaaGreatDoorPairs
namespace Go.XL
open Go.RowKit Go.Shelf
set_option linter.unusedVariables false
set_option linter.unusedSimpArgs false
theorem Ow.see {w w' : World} {E : TypeId} {v : Value} {xs : List Int} (h : Made E w w' v xs) : ∃ ao cap, v = .slice ao xs.length cap ∧ xs.length ≤ cap ∧ cap ≤ 9223372036854775807 ∧ IntsAt w' (.slice ao xs.length cap) xs ∧ Fr no w w' := by
  obtain ⟨ao, cap, rfl, h1, h2⟩ := h.cap
  exact ⟨ao, cap, rfl, h1, h2, h.rd, h.fr⟩
theorem rd_nil (w : World) (size : Nat) : Rd w size (.slice none 0 0) 0 [] := (Sl.nil w 0 size).rd
theorem bstr (l : List UInt8) (r : ByteArray) (h : ⟨l.toArray⟩ = r) : (r.toList == l) = true := by rw [← h, ByteArray.toList_eq]; simp
end Go.XL
namespace Go.Proofs.YtgcjnhocoklfbaaGreatDoor
open Go.RowKit Go.Shelf Go.XL
set_option linter.unusedVariables false
set_option linter.unusedSimpArgs false
attribute [local go_sem] Oper.semAt_some
theorem text_352 : vtext [3, 5, 2] = [91, 51, 32, 53, 32, 50, 93] := by simp [vtext, vlast, vallF, wjoin, Lib.itoa, Lib.decDigits_one]
theorem text_1 : vtext [1, 0, 0] = [91, 49, 93] := by simp [vtext, vlast, vallF, wjoin, Lib.itoa, Lib.decDigits_one]
theorem text_0 : vtext [] = [91, 93] := by simp [vtext, vlast, vallF, wjoin]
theorem text_1507 : vtext [1, 5, 0, 7] = [91, 49, 32, 53, 32, 48, 32, 55, 93] := by simp [vtext, vlast, vallF, wjoin, Lib.itoa, Lib.decDigits_one]
theorem parse_302 : vparse [91, 51, 32, 48, 32, 50, 93] = ([3, 0, 2], 0) := by decide
theorem parse_30 : vparse [91, 51, 32, 48, 93] = ([], 2) := by decide
/-- the iterator of a vector, as it lies in memory -/
theorem all_each (c : Nat) (v : Value) (xs : List Int) : EachD Fence.wide 2 Tryz.prog 63 #[.pointer (some ⟨c, 0, none⟩)] encP (fun W => W.cell? ⟨c, 0, none⟩ = some v ∧ IntsAt W v xs) (vallF xs 0) := by
  have h := all_iter c v xs
  intro l J Jx W hJ hPre hstep
  refine (h l J Jx W hJ hPre (fun s W x s' W1 hs ⟨e1, e2⟩ => hstep s W x s' W1 hs ⟨e1, 0, by rw [← e2]; rfl⟩)).mono ?_
  rintro e W' ⟨he, hd⟩
  refine ⟨he, ?_⟩
  rcases hd with ⟨s, W2, h1, h2, h3⟩ | h
  · exact .inl ⟨s, W2, h1, h2, 0, by rw [← h3]; rfl⟩
  · exact .inr h
end Go.Proofs.YtgcjnhocoklfbaaGreatDoor
