/- The library's variables as records' walks ask for them. -/
import Derived.Test.YtgcjnhocoklfbaaGreatDoorCard
import Derived.Test.YtgcjnhocoklfbaaGreatDoorRc0
import Derived.Lib.LaidU8T
import Derived.PinnedBridge
namespace Go.Proofs.YtgcjnhocoklfbaaGreatDoor
open Go.RowKit Go.Shelf Go.XL Go.Proofs
set_option linter.unusedVariables false
def uren : Ren := { Tryz.lays237_ren with
  t := fun k => if k = 5 then 5 else if k = 119 then 135 else if k = 138 then 137 else 138
  g := fun k => if k = 3 then 1 else 2 }
theorem utypes : U8Types Tryz.prog uren where
  t5 := Tryz.underlying5
  t119 := Tryz.underlying135
  t138 := Tryz.underlying137
  t139 := Tryz.underlying138
theorem uextra : U8Extra Tryz.prog uren where
  n3 := by kernel_rfl
  n4 := by kernel_rfl
  y3 := by kernel_rfl
  y4 := by kernel_rfl
  c5 := by kernel_rfl
  c119 := by kernel_rfl
  c138 := by kernel_rfl
set_option maxRecDepth 100000 in
theorem glu_of_laid {l : List (String × DataW Unit)} {W : World} (hl : l.all (fun x => x.2.handleName?.isNone) = true)
    (h1 : l.filter (fun x => x.1 == "internal/strconv.uint64pow10") = [("internal/strconv.uint64pow10", Lib.tabData .u64 Lib.pow10Tab)])
    (h2 : l.filter (fun x => x.1 == "strconv.ErrRange") = [("strconv.ErrRange", Rows.laid_strconv_ErrRange)])
    (h3 : l.filter (fun x => x.1 == "unicode/utf8.first") = [("unicode/utf8.first", Go.Pinned.utf8First)])
    (h4 : l.filter (fun x => x.1 == "unicode/utf8.acceptRanges") = [("unicode/utf8.acceptRanges", Lib.acceptData)])
    (h : laidMetH Tryz.prog l W) (hs : W.ShapedOpen Tryz.prog) : GlU W := by
  have hg := gl_of_laid hl h1 h2 h hs
  rw [MakeChecks.laidMetH_plain _ _ _ (by rw [Bool.eq_iff_iff] at *; simpa using hl)] at h
  have m3 : ("unicode/utf8.first", Lib.firstData) ∈ l := by
    have : ("unicode/utf8.first", Go.Pinned.utf8First) ∈ l.filter (fun x => x.1 == "unicode/utf8.first") := by rw [h3]; exact List.mem_singleton.2 rfl
    have := (List.mem_filter.1 this).1
    rwa [Pinned.utf8First_eq] at this
  have m4 : ("unicode/utf8.acceptRanges", Lib.acceptData) ∈ l := by
    have : ("unicode/utf8.acceptRanges", Lib.acceptData) ∈ l.filter (fun x => x.1 == "unicode/utf8.acceptRanges") := by rw [h4]; exact List.mem_singleton.2 rfl
    exact (List.mem_filter.1 this).1
  exact ⟨hg, utf8Tabs_of_readsT (P := Tryz.prog) (ρ := uren) utypes uextra (Go.Lib.laidMet.reads h m3) (Go.Lib.laidMet.reads h m4)⟩
end Go.Proofs.YtgcjnhocoklfbaaGreatDoor
