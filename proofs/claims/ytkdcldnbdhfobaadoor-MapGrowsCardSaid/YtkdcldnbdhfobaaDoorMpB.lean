/- Maps built out of numbers, epoch by epoch (plain). -/
import Derived.Test.YtkdcldnbdhfobaaDoorMpK
namespace Go.XL
open Go.RowKit Go.Shelf
set_option linter.unusedVariables false
set_option linter.unusedSimpArgs false
def mat (zs : List Int) : Nat → Int
  | 0 => 0
  | k + 1 => mat zs k + zs[k]?.getD 0 / 8 % 9
def mbuilt (zs : List Int) (k : Nat) : Mp := (List.range k).map fun i => (mat zs i, 1 + zs[i]?.getD 0 % 8)
theorem mbuilt_succ (zs : List Int) (k : Nat) : mbuilt zs (k + 1) = mbuilt zs k ++ [(mat zs k, 1 + zs[k]?.getD 0 % 8)] := by
  unfold mbuilt; rw [List.range_succ, List.map_append]; rfl
theorem mbuilt_len (zs : List Int) (k : Nat) : (mbuilt zs k).length = k := by unfold mbuilt; simp
theorem mat_mono (zs : List Int) (i : Nat) : ∀ j : Nat, mat zs i ≤ mat zs (i + j) ∧ mat zs (i + j) ≤ mat zs i + 8 * j := by
  intro j
  induction j with
  | zero => simp
  | succ j ih =>
    rw [show i + (j + 1) = (i + j) + 1 by omega, mat]
    have h1 := Int.emod_nonneg (zs[i + j]?.getD 0 / 8) (show (9 : Int) ≠ 0 by decide)
    have h2 := Int.emod_lt_of_pos (zs[i + j]?.getD 0 / 8) (show (0 : Int) < 9 by decide)
    omega
theorem mat_bound (zs : List Int) (j : Nat) : 0 ≤ mat zs j ∧ mat zs j ≤ 8 * j := by
  have h := mat_mono zs 0 j
  simp only [Nat.zero_add, mat] at h
  omega
theorem mbuilt_mem {zs : List Int} {k : Nat} {x : Int × Int} (h : x ∈ mbuilt zs k) : (0 ≤ x.1 ∧ x.1 ≤ 8 * k) ∧ 1 ≤ x.2 ∧ x.2 ≤ 8 := by
  unfold mbuilt at h
  obtain ⟨i, hi, rfl⟩ := List.mem_map.1 h
  have hi2 := List.mem_range.1 hi
  have h0 := mat_bound zs i
  have h1 := Int.emod_nonneg (zs[i]?.getD 0) (show (8 : Int) ≠ 0 by decide)
  have h2 := Int.emod_lt_of_pos (zs[i]?.getD 0) (show (0 : Int) < 8 by decide)
  dsimp only
  omega
theorem mgo_zero : ∀ (m : Mp) (l : Int), (∀ x ∈ m, l ≤ x.1 ∧ 1 ≤ x.2 ∧ x.2 ≤ 8) → m.Pairwise (fun x y => x.1 ≤ y.1) → mgo false l m = 0 := by
  intro m
  induction m with
  | nil => intros; rfl
  | cons x r ih =>
    intro l h hp
    have hx := h x (by simp)
    obtain ⟨p1, p2⟩ := List.pairwise_cons.1 hp
    rw [mgo, if_neg (by simp; omega)]
    exact ih x.1 (fun y hy => ⟨p1 y hy, (h y (by simp [hy])).2⟩) p2
theorem mcheck_zero {x : Int × Int} {r : Mp} (h0 : x.1 = 0) (h : ∀ y ∈ x :: r, 1 ≤ y.2 ∧ y.2 ≤ 8) (hp : (x :: r).Pairwise (fun x y => x.1 ≤ y.1)) : mcheck (x :: r) = 0 := by
  obtain ⟨p1, p2⟩ := List.pairwise_cons.1 hp
  have hx := h x (by simp)
  unfold mcheck
  rw [if_neg (by simp), mgo, if_neg (by simp; omega)]
  exact mgo_zero r x.1 (fun y hy => ⟨p1 y hy, h y (by simp [hy])⟩) p2
theorem mbuilt_pair (zs : List Int) (k : Nat) : (mbuilt zs k).Pairwise (fun x y => x.1 ≤ y.1) := by
  unfold mbuilt
  rw [List.pairwise_map]
  refine List.Pairwise.imp (R := fun a b : Nat => a < b) (fun {a b} hab => ?_) List.pairwise_lt_range
  have := (mat_mono zs a (b - a)).1
  rw [show a + (b - a) = b by omega] at this
  exact this
theorem mbuilt_check (zs : List Int) {k : Nat} (hk : 1 ≤ k) : mcheck (mbuilt zs k) = 0 := by
  have hp := mbuilt_pair zs k
  have hm := fun x hx => (mbuilt_mem (zs := zs) (k := k) (x := x) hx).2
  have h0 : (mbuilt zs k)[0]? = some (0, 1 + zs[0]?.getD 0 % 8) := by
    unfold mbuilt
    rw [List.getElem?_map, List.getElem?_range (by omega)]; rfl
  generalize mbuilt zs k = m at *
  cases m with
  | nil => simp at h0
  | cons x r =>
    simp at h0
    exact mcheck_zero (by rw [h0]) hm hp
/-- filtered, one after the other -/
theorem irange_snoc {a b : Int} (h : a ≤ b) : irange a (b + 1) = irange a b ++ [b] := by
  rw [irange_app (by omega : b ≤ b + 1) (b - a).toNat a rfl h, irange_cons (by omega : b < b + 1), irange_nil (Int.le_refl _)]
theorem quo_step {k : IntKind} {f y m : Int} (hk : ∀ x : Int, 0 ≤ x → x ≤ m → k.wrap x = x) (h0 : 0 ≤ y) (h1 : y ≤ m) (hf0 : 0 ≤ f) (hf1 : f ≤ 1000000) : wrap64 (f + wrap64 ((k.wrap (y.tdiv 8)).tmod 9)) = f + y / 8 % 9 := by
  rw [Int.tdiv_eq_ediv_of_nonneg h0, hk (y / 8) (by omega) (by omega), Int.tmod_eq_emod_of_nonneg (by omega)]
  have a1 := Int.emod_nonneg (y / 8) (show (9 : Int) ≠ 0 by decide)
  have a2 := Int.emod_lt_of_pos (y / 8) (show (0 : Int) < 9 by decide)
  generalize y / 8 % 9 = q at *
  unfold wrap64
  omega
theorem wrap_u8 (x : Int) (h0 : 0 ≤ x) (h1 : x ≤ 255) : IntKind.u8.wrap x = x := by simp [IntKind.wrap, IntKind.bits, IntKind.signed]; omega
theorem wrap_u16 (x : Int) (h0 : 0 ≤ x) (h1 : x ≤ 65535) : IntKind.u16.wrap x = x := by simp [IntKind.wrap, IntKind.bits, IntKind.signed]; omega
end Go.XL
