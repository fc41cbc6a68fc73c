-- Printed by a program of this claim's own (over the translation; hand-told functions among them): Lean checks it.
import Derived.Test.YtngbibpmaofamaaQTestx0
import Derived.Test.YtngbibpmaofamaaOwn
import Derived.Test.YtngbibpmaofamaaShelfA
import Derived.Test.YtngbibpmaofamaaOwn
namespace Go.Proofs.Ytngbibpmaofamaa.QTest
open Go.RowKit Go.Proofs.YtngbibpmaofamaaW.PrintWords Go.Proofs.YtngbibpmaofamaaW.PrintLast Go.Proofs.YtngbibpmaofamaaW.PrintMore
attribute [local go_sem] max2_int min2_int max_two min_two max_three min_three max_four min_four   -- for this text's walks alone
set_option linter.unusedVariables false
set_option linter.unusedSimpArgs false

/-! ### slices_Compact_int_int: function 25 -/
/-- slices.Compact at []int: runs of equal numbers, once each (told by the shelf's contract). -/
def slices_Compact_int_int.f (l0 : List Int) : Option (List Int) := some (Lib.compact l0)
theorem compact_len (l : List Int) : (Lib.compact l).length ≤ l.length := by
  unfold Lib.compact Lib.compactUpTo; rw [List.length_map]; exact Nat.le_trans (List.length_filter_le _ _) (by simp)
theorem slices_Compact_int_int.calls (P0_ : Nat → Prop) (u9000_ : Value) (l0 : List Int) (r : List Int) (w0 w : World) (hB : Below w0.heap.size w0 w) (ho0 : Kd.R (Kd.int .i64) 3 w w0.heap.size P0_ u9000_ l0) (h : slices_Compact_int_int.f l0 = some r) :
    Calls Try.prog 25 #[u9000_] w fun e w' => ∃ v0_ : Value, e = .returned (v0_) ∧ Kd.R (Kd.int .i64) 3 w' w0.heap.size (fun k_ => (P0_ k_ ∨ w.heap.size ≤ k_)) v0_ r ∧ Below w0.heap.size w0 w' ∧ Kept w w' (fun k_ => P0_ k_) := by
  obtain rfl := Option.some.inj h
  rcases Own.R_int_open ho0 with ⟨rfl, rfl⟩ | ⟨g, cap, cur, rfl, hP, hb, hh, hle, hm, hs, ht⟩
  · refine (Try.slices_Compact_int_empty none 0 w).mono fun e w' ⟨he, hw⟩ => ⟨_, he, ?_, ?_, ?_⟩
    · rw [hw]; exact Kd.R_nil _ _ _ _ _
    · rw [hw]; exact hB
    · rw [hw]; exact Kept.refl _ _
  · have hmax : l0.length ≤ 9223372036854775807 := Nat.le_trans hle hm
    refine (Try.slices_Compact_int g 0 cap l0 w (Own.holds_of_cells hh ht) hmax hle).mono fun e w' ⟨he, n, hw⟩ => ⟨_, he, ?_⟩
    have hc := compact_len l0
    exact Own.sorted_world (k := .i64) (W := w') (d := Lib.compact l0) (d2 := List.replicate (l0.length - (Lib.compact l0).length) 0) (m := n) (os := #[]) hB hP hb hh hm hs (by simp; omega) (by rw [hw]; unfold sortWorld; rw [Sort.grow_empty]) (by rw [hw]; rfl) (by rw [hw]; rfl) (by rw [hw]; rfl)

end Go.Proofs.Ytngbibpmaofamaa.QTest
