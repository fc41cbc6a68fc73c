-- Printed by a program of this claim's own (over the translation; hand-told functions among them): Lean checks it.
import Derived.Test.YtngbibpmaofamaaQTestx0
import Derived.Test.YtngbibpmaofamaaOwn
import Derived.Test.YtngbibpmaofamaaShelfA
import Derived.Test.YtngbibpmaofamaaOwn
namespace Go.Proofs.Ytngbibpmaofamaa.QTest
open Go.RowKit Go.Proofs.YtngbibpmaofamaaW.PrintWords Go.Proofs.YtngbibpmaofamaaW.PrintLast Go.Proofs.YtngbibpmaofamaaW.PrintMore
attribute [local go_sem] max2_int min2_int max_two min_two max_three min_three max_four min_four   -- for this text's walks alone
set_option linter.unusedVariables false
set_option linter.unusedSimpArgs false

/-! ### slices_Sort_int_int: function 24 -/
/-- slices.Sort at []int: the numbers, ascending (told by the shelf's contract). -/
def slices_Sort_int_int.f (l0 : List Int) : Option (List Int) := if l0.length < 4611686018427387904 then some (l0.mergeSort fun x y => decide (x ≤ y)) else none
theorem slices_Sort_int_int.calls (P0_ : Nat → Prop) (u9000_ : Value) (l0 : List Int) (r : List Int) (w0 w : World) (hB : Below w0.heap.size w0 w) (ho0 : Kd.R (Kd.int .i64) 3 w w0.heap.size P0_ u9000_ l0) (h : slices_Sort_int_int.f l0 = some r) :
    Calls Try.prog 24 #[u9000_] w fun e w' => e = .returned (.tuple #[]) ∧ Kd.R (Kd.int .i64) 3 w' w0.heap.size (fun k_ => (P0_ k_ ∨ w.heap.size ≤ k_)) u9000_ r ∧ Below w0.heap.size w0 w' ∧ Kept w w' (fun k_ => P0_ k_) := by
  unfold slices_Sort_int_int.f at h
  by_cases hl : l0.length < 4611686018427387904
  · rw [if_pos hl] at h
    obtain rfl := Option.some.inj h
    rcases Own.R_int_open ho0 with ⟨rfl, rfl⟩ | ⟨g, cap, cur, rfl, hP, hb, hh, hle, hm, hs, ht⟩
    · refine (Try.slices_Sort_int_none none 0 w).mono fun e w' ⟨he, hw⟩ => ⟨he, ?_, ?_, ?_⟩
      · rw [hw]; simp; exact Kd.R_nil _ _ _ _ _
      · rw [hw]; exact hB
      · rw [hw]; exact Kept.refl _ _
    · refine (Try.slices_Sort_int g 0 cap l0 w (Own.holds_of_cells hh ht) (Array.getElem?_eq_some_iff.1 hh).1 hl).mono fun e w' ⟨he, n, os, hw⟩ => ⟨he, ?_⟩
      have hlen : (l0.mergeSort fun x y => decide (x ≤ y)).length = l0.length := List.length_mergeSort _
      have z := Own.sorted_world (k := .i64) (W := w') (d := l0.mergeSort fun x y => decide (x ≤ y)) (d2 := []) (m := n) (os := os) hB hP hb hh hm hs (by rw [List.append_nil, hlen]; exact hle) (by rw [List.append_nil]; exact hw) (by rw [hw]; rfl) (by rw [hw]; rfl) (by rw [hw]; rfl)
      rw [hlen] at z
      exact z
  · rw [if_neg hl] at h
    cases h

end Go.Proofs.Ytngbibpmaofamaa.QTest
