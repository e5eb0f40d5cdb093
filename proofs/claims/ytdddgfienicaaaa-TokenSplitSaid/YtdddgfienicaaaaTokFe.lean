/- Few, with its answer named. -/
import Derived.Test.YtdddgfienicaaaaTokAd
namespace Go.XL
open Go.RowKit Go.Shelf
set_option linter.unusedVariables false
def fewD (d : Dr) : Bool := decide (d.dep.length ≤ 70) && decide (d.key.size ≤ 50) && decide (d.val.size ≤ 50)
def fewL (l : List Dr) : Bool := decide (l.length ≤ 40) && l.all fewD
end Go.XL
namespace Go.Proofs.Ytdddgfienicaaaa
open Go.RowKit Go.Shelf Go.XL
set_option linter.unusedVariables false
set_option linter.unusedSimpArgs false
attribute [local go_sem] Oper.semAt_some
theorem l2FewD (s q : Int) (dO : Option Addr) (dn dc : Nat) (key val : ByteArray) (w : World) (b : Bool) (hb : (decide (dn ≤ 70) && decide (key.size ≤ 50) && decide (val.size ≤ 50)) = b) :
    Calls Try.prog 29 #[.agg #[.int .i64 s, .int .i64 q, .slice dO dn dc, .string key, .string val]] w fun e w' => e = .returned (.bool b) ∧ Fr no w w' := by
  have hf : ∀ c, Fr no w (w.alloc c) := fun c => (Fr.refl no w).alloc _
  have HF := Lib.hid hf
  clear hf
  by_cases h1 : dn ≤ 70
  · by_cases h2 : key.size ≤ 50
    · by_cases h3 : val.size ≤ 50
      · obtain rfl : true = b := by rw [← hb]; simp [h1, h2, h3]
        go_enter Try.func29, Try.ntmps29
        go_wp2
        go_ret
        first | exact ⟨rfl, HF.out _⟩ | (refine ⟨?_, HF.out _⟩; simp; omega)
      · obtain rfl : false = b := by rw [← hb]; simp [h1, h2, h3]
        go_enter Try.func29, Try.ntmps29
        go_wp2
        go_ret
        first | exact ⟨rfl, HF.out _⟩ | (refine ⟨?_, HF.out _⟩; simp; omega)
    · obtain rfl : false = b := by rw [← hb]; simp [h1, h2]
      go_enter Try.func29, Try.ntmps29
      go_wp2
      go_ret
      first | exact ⟨rfl, HF.out _⟩ | (refine ⟨?_, HF.out _⟩; simp; omega)
  · obtain rfl : false = b := by rw [← hb]; simp [h1]
    go_enter Try.func29, Try.ntmps29
    go_wp2
    go_ret
    first | exact ⟨rfl, HF.out _⟩ | (refine ⟨?_, HF.out _⟩; simp; omega)

theorem lFewD (v : Value) (l : List Dr) (w : World) (h : DrsAt w v l) (hd : ∀ d ∈ l, DrOk w d) :
    Calls Try.prog 9 #[v] w fun e w' => e = .returned (.bool (fewL l)) ∧ Fr no w w' := by
  obtain ⟨vo, vc, rfl, hvc, hvm⟩ := h.cap
  have H : Hid (Rd w 6 (.slice vo l.length vc) l.length (drCells l)) := Lib.hid h
  have Hd := Lib.hid hd
  clear h hd
  obtain ⟨r, hr⟩ : ∃ r, fewL l = r := ⟨_, rfl⟩
  rw [hr]
  unfold fewL at hr
  generalize hm : l.length = n at *
  have Hm := Lib.hid hm
  have Hr := Lib.hid hr
  clear hm hr
  go_enter Try.func9, Try.ntmps9
  by_cases h40 : 40 < n
  · obtain rfl : false = r := by rw [← Hr.out]; simp; omega
    go_wp2
    go_ret
    exact ⟨rfl, Fr.refl _ _⟩
  · have hall : l.all fewD = r := by rw [← Hr.out, decide_eq_true (by omega), Bool.true_and]
    have Hall := Lib.hid hall
    clear hall Hr
    go_wp2_with fail
    go_loopw [3] (fun iv wr => ∃ i : Nat, i ≤ n ∧ iv = .int .i64 i ∧ Hid ((l.drop i).all fewD = r) ∧ Hid (Fr no w wr)) (fun iv _ => n - (intOf iv).toNat)
    case atStart => exact ⟨0, Nat.zero_le _, rfl, Hall, Lib.hid (Fr.refl _ _)⟩
    case round =>
      obtain ⟨i, hi, rfl, hA, hF⟩ := hrel
      generalize wr = W at *
      by_cases hlt : i < n
      · obtain ⟨d, hdk⟩ : ∃ x, l[i]? = some x := ⟨l[i]'(by rw [Hm.out]; exact hlt), by simp⟩
        have hdo := Hd.out d (List.mem_of_getElem? hdk)
        have hA2 := hA.out
        obtain ⟨hk2, hx2⟩ := List.getElem?_eq_some_iff.1 hdk
        rw [List.drop_eq_getElem_cons hk2, hx2, List.all_cons] at hA2
        obtain ⟨g, off, c', he, e0, e1, e2, e3, e4, e5⟩ := drs_cells (w := W) (v := .slice vo n vc) (l := l) (by have h := H.out; show Rd W 6 _ l.length _; rw [Hm.out]; exact Rd.fr h hF.out (fun _ _ _ f => f)) hdk
        rw [Hm.out] at he
        cases he
        obtain ⟨b, hb⟩ : ∃ b, fewD d = b := ⟨_, rfl⟩
        rw [hb] at hA2
        obtain ⟨dt, ds, dq, dv, dep, dk, dx⟩ := d
        obtain ⟨dO, dc, hdv, _, _⟩ := Rd.cap hdo
        dsimp only at *
        subst hdv
        have hcall := l2FewD ds dq dO dep.length dc dk dx W b hb
        have Hcall := Lib.hid hcall
        have HA2 := Lib.hid hA2
        clear hdk hdo hb hcall hA2 hx2 hA
        go_wp2_with fail
        refine (Hcall.out).mono ?_
        rintro e w3 ⟨rfl, hf3⟩
        have HF3 := Lib.hid (hF.out.trans' hf3)
        clear hf3 hF e0 e1 e2 e3 e4 e5 Hcall
        cases b
        · obtain rfl : false = r := HA2.out
          go_wp2
          go_ret
          exact ⟨rfl, HF3.out⟩
        · go_wp2
          go_roundw
          case rel => exact ⟨i + 1, by omega, by go_num, HA2, HF3⟩
          case measure => simp [intOf]; omega
      · have hA2 := hA.out
        rw [List.drop_eq_nil_of_le (by rw [Hm.out]; omega)] at hA2
        obtain rfl : true = r := hA2
        go_wp2
        go_ret
        exact ⟨rfl, hF.out⟩
end Go.Proofs.Ytdddgfienicaaaa
