/- The library's variables stay through what turns blocks behind them alone. -/
import Derived.Test.YtkdcldnbdhfobaaDoorVecN
namespace Go.XL
open Go.RowKit Go.Shelf
theorem tabIs_lt {P : Program} {n : String} {g : Nat} {k : IntKind} {zs : List Int} {w : World} (hg : P.globalNamed n = some g) (h : Lib.TabIs P w n k zs) : g < w.heap.size := by
  unfold Lib.TabIs World.var? at h
  rw [hg] at h
  simp only [Option.bind_some] at h
  rcases Nat.lt_or_ge g w.heap.size with h' | h'
  · exact h'
  · rw [Array.getElem?_eq_none h'] at h; cases h
theorem tabIs_frF {F : Nat → Prop} {P : Program} {n : String} {g : Nat} {k : IntKind} {zs : List Int} {w w' : World} (hg : P.globalNamed n = some g) (h : Lib.TabIs P w n k zs) (hb : Fr F w w') (hF : ¬ F g) : Lib.TabIs P w' n k zs := by
  have hlt := tabIs_lt hg h
  unfold Lib.TabIs World.var? at h ⊢
  rw [hg] at h ⊢
  simp only [Option.bind_some] at h ⊢
  rw [hb.block g hlt hF]
  exact h
end Go.XL
namespace Go.Proofs.YtkdcldnbdhfobaaDoor
open Go.RowKit Go.Shelf Go.XL
theorem Gl.frF {F : Nat → Prop} {w0 w w' : World} (h0 : Gl w0) (h : Gl w) (hf : Fr F w w') (hF : ∀ k, F k → w0.heap.size ≤ k) : Gl w' := by
  obtain ⟨⟨m0, hm0⟩, ⟨te0, pe0, he0⟩, hp0⟩ := h0
  obtain ⟨⟨m, hm⟩, ⟨te, pe, he⟩, hp⟩ := h
  have l1 := World.block_lt_of_cell? w0 _ hm0
  have l2 := World.block_lt_of_cell? w0 _ he0
  have l3 := tabIs_lt (g := 1) (by kernel_rfl) hp0
  exact ⟨⟨m, hf.cell hm (fun f => Nat.not_lt.2 (hF _ f) l1)⟩, ⟨te, pe, hf.cell he (fun f => Nat.not_lt.2 (hF _ f) l2)⟩, tabIs_frF (g := 1) (by kernel_rfl) hp hf (fun f => Nat.not_lt.2 (hF _ f) l3)⟩
end Go.Proofs.YtkdcldnbdhfobaaDoor
