/- A disk in memory: its lines, how many of them last. -/
import Derived.Test.YthlcbhpdbcnmjaaOwn
import Derived.Shelf.Strings.Search1
namespace Go.XL
open Go.RowKit Go.Shelf
set_option linter.unusedVariables false
set_option linter.unusedSimpArgs false

/-- so many bytes -/
def dUsed : List ByteArray → Nat
  | [] => 0
  | s :: r => s.size + 1 + dUsed r
theorem dUsed_append (a b : List ByteArray) : dUsed (a ++ b) = dUsed a + dUsed b := by
  induction a with
  | nil => simp [dUsed]
  | cons s r ih => simp only [List.cons_append, dUsed, ih]; omega
theorem dUsed_len (a : List ByteArray) : a.length ≤ dUsed a := by
  induction a with
  | nil => simp [dUsed]
  | cons s r ih => simp only [dUsed, List.length_cons]; omega
theorem dUsed_take (a : List ByteArray) (n : Nat) : dUsed (a.take n) ≤ dUsed a := by
  have := dUsed_append (a.take n) (a.drop n)
  rw [List.take_append_drop] at this
  omega
theorem dUsed_mem {a : List ByteArray} {s : ByteArray} (h : s ∈ a) : s.size + 1 ≤ dUsed a := by
  induction a with
  | nil => cases h
  | cons x r ih =>
    simp only [dUsed]
    rcases List.mem_cons.1 h with rfl | h
    · omega
    · have := ih h; omega
/-- is there an end of a line? -/
def hasNl (s : ByteArray) : Bool := decide (0 ≤ Lib.indexByte s.data.toList 10)
/-- so many of the waiting lines stay -/
def crashFrom : List ByteArray → Int → Nat
  | [], _ => 0
  | s :: r, k => if (s.size : Int) + 1 ≤ k then crashFrom r (k - (s.size + 1)) + 1 else 0
theorem crashFrom_le (l : List ByteArray) (k : Int) : crashFrom l k ≤ l.length := by
  induction l generalizing k with
  | nil => simp [crashFrom]
  | cons s r ih =>
    unfold crashFrom
    split
    · have := ih (k - (s.size + 1))
      simp only [List.length_cons]
      omega
    · simp
theorem crashFrom_neg (l : List ByteArray) (k : Int) (h : k ≤ 0) : crashFrom l k = 0 := by
  cases l with
  | nil => rfl
  | cons s r => unfold crashFrom; rw [if_neg (by omega)]
theorem crashFrom_max (l : List ByteArray) (k : Int) : crashFrom l (max k 0) = crashFrom l k := by
  by_cases h : 0 ≤ k
  · rw [Int.max_eq_left h]
  · rw [crashFrom_neg l k (by omega), crashFrom_neg l _ (by omega)]
/-- so many lines are there behind a crash -/
def crashN (ls : List ByteArray) (lasts : Nat) (k : Int) : Nat := lasts + crashFrom (ls.drop lasts) k
theorem crashN_le {ls : List ByteArray} {lasts : Nat} (k : Int) (h : lasts ≤ ls.length) : crashN ls lasts k ≤ ls.length := by
  have := crashFrom_le (ls.drop lasts) k
  rw [List.length_drop] at this
  unfold crashN; omega

/-- what Write tells; what is there then -/
def dWriteR (room : Int) (ls : List ByteArray) (s : ByteArray) : Int := if hasNl s = true then 2 else if room - (dUsed ls : Int) < (s.size : Int) + 1 then 6 else 0
def dWriteL (room : Int) (ls : List ByteArray) (s : ByteArray) : List ByteArray := if dWriteR room ls s = 0 then ls ++ [s] else ls

/-- the disk at block p -/
structure DkAt (Ts Td : TypeId) (w : World) (p : Nat) (v : Value) (room : Int) (ls : List ByteArray) (lasts : Nat) : Prop where
  cell : w.heap[p]? = some (.cells #[.int .i64 room, v, .int .i64 lasts] Td (0, 0))
  row : Sl w Ts 1 v ls.length (ls.map Value.string)
  ne : v.ownBlock ≠ some p
  lasts : lasts ≤ ls.length
  used : (dUsed ls : Int) ≤ room
  room : 1 ≤ room ∧ room ≤ 1048576
/-- its blocks -/
def dOwn (p : Nat) (v : Value) : Nat → Prop := fun g => g = p ∨ v.ownBlock = some g
variable {Ts Td : TypeId} {w w' : World} {p : Nat} {v : Value} {room : Int} {ls : List ByteArray} {lasts : Nat}
theorem DkAt.lt (h : DkAt Ts Td w p v room ls lasts) : ∀ g, dOwn p v g → g < w.heap.size := by
  rintro g (rfl | hg)
  · exact (Array.getElem?_eq_some_iff.1 h.cell).1
  · exact h.row.lt g hg
theorem DkAt.fr {F : Nat → Prop} (h : DkAt Ts Td w p v room ls lasts) (hf : Fr F w w') (hF : ∀ g, dOwn p v g → ¬ F g) : DkAt Ts Td w' p v room ls lasts :=
  ⟨hf.heap h.cell (hF _ (.inl rfl)), h.row.fr hf (fun g hg => hF g (.inr hg)), h.ne, h.lasts, h.used, h.room⟩
theorem DkAt.fr0 (h : DkAt Ts Td w p v room ls lasts) (hf : Fr no w w') : DkAt Ts Td w' p v room ls lasts := h.fr hf (fun _ _ f => f)
theorem DkAt.bk {B : Nat} (h : DkAt Ts Td w p v room ls lasts) (hf : Bk B w w') : DkAt Ts Td w' p v room ls lasts :=
  ⟨hf.heap h.cell rfl, h.row.bk hf, h.ne, h.lasts, h.used, h.room⟩
theorem DkAt.c0 (h : DkAt Ts Td w p v room ls lasts) : w.cell? ⟨p, 0, none⟩ = some (.int .i64 room) := cell_of_block h.cell rfl
theorem DkAt.c1 (h : DkAt Ts Td w p v room ls lasts) : w.cell? ⟨p, 1, none⟩ = some v := cell_of_block h.cell rfl
theorem DkAt.c2 (h : DkAt Ts Td w p v room ls lasts) : w.cell? ⟨p, 2, none⟩ = some (.int .i64 lasts) := cell_of_block h.cell rfl
theorem DkAt.fz (h : DkAt Ts Td w p v room ls lasts) (j : Nat) : w.frozen? ⟨p, j, none⟩ = false := frozen_of_block h.cell
theorem DkAt.len (h : DkAt Ts Td w p v room ls lasts) : ls.length ≤ 1048576 := by
  have h1 := dUsed_len ls
  have h2 := h.used
  have h3 := h.room
  omega
theorem DkAt.usedN (h : DkAt Ts Td w p v room ls lasts) : dUsed ls ≤ 1048576 := by
  have h2 := h.used
  have h3 := h.room
  omega
end Go.XL
