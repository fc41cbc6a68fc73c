-- Printed by a program of this claim's own (over the translation; hand-told functions among them): Lean checks it.
import Derived.Test.YtngbibpmaofamaaQTestx0
import Derived.Test.YtngbibpmaofamaaOwn
import Derived.Test.YtngbibpmaofamaaShd
namespace Go.Proofs.Ytngbibpmaofamaa.QTest
open Go.RowKit Go.Proofs.YtngbibpmaofamaaW.PrintWords Go.Proofs.YtngbibpmaofamaaW.PrintLast Go.Proofs.YtngbibpmaofamaaW.PrintMore
attribute [local go_sem] max2_int min2_int max_two min_two max_three min_three max_four min_four   -- for this text's walks alone
set_option linter.unusedVariables false
set_option linter.unusedSimpArgs false

/-! ### slices_SortStableFunc_int_int: function 59 -/
/-- slices.SortStableFunc at []int with executive.share's comparison: by remainder, the greatest first; among equals by place (told by the claim's own walk of it). -/
def slices_SortStableFunc_share.f (l0 : List Int) (c : Int) (lo : List S25) (s : Int) : Option (List Int) :=
  if 0 < l0.length ∧ l0.length < 40 ∧ (∀ x ∈ l0, 0 ≤ x ∧ x < (lo.length : Int)) ∧ l0.Pairwise (· < ·) ∧ ¬ s = 0 then some (Shc.sortG lo.length (fun i => (rd_T25 lo i).f0) c s l0) else none
theorem slices_SortStableFunc_share.calls (P0_ : Nat → Prop) (u9000_ : Value) (l0 : List Int) (g1 : Nat) (c : Int) (g2 : Nat) (A : Option Addr) (cp : Nat) (lo : List S25) (g3 : Nat) (s : Int) (r : List Int) (w0 w : World) (hB : Below w0.heap.size w0 w) (ho0 : Kd.R (Kd.int .i64) 3 w w0.heap.size P0_ u9000_ l0)
    (hb1 : w.heap[g1]? = some (.cells #[.int .i64 c] 3 (0, 0))) (hn1 : ¬ P0_ g1) (hb2 : w.heap[g2]? = some (.cells #[.slice A lo.length cp] 22 (0, 0))) (hn2 : ¬ P0_ g2) (hr : ∀ W_, Kept w W_ P0_ → Kd.C k25 W_ A lo.length lo) (_hc : lo.length ≤ cp)
    (hb3 : w.heap[g3]? = some (.cells #[.int .i64 s] 3 (0, 0))) (hn3 : ¬ P0_ g3) (h : slices_SortStableFunc_share.f l0 c lo s = some r) :
    Calls Try.prog 59 #[u9000_, .func (.func 60) #[] #[.pointer (some ⟨g1, 0, none⟩), .pointer (some ⟨g2, 0, none⟩), .pointer (some ⟨g3, 0, none⟩)]] w fun e w' => e = .returned (.tuple #[]) ∧ Kd.R (Kd.int .i64) 3 w' w0.heap.size (fun k_ => (P0_ k_ ∨ w.heap.size ≤ k_)) u9000_ r ∧ Below w0.heap.size w0 w' ∧ Kept w w' (fun k_ => P0_ k_) := by
  unfold slices_SortStableFunc_share.f at h
  split at h
  · next hc2 =>
    obtain ⟨h0, h40, hin, hasc, hs⟩ := hc2
    obtain rfl := Option.some.inj h
    have hl : 0 < lo.length := by
      have := hin l0[0] (List.getElem_mem h0)
      omega
    obtain ⟨ad, rfl, -, -⟩ := at_T25 (hr w (Kept.refl _ _)) 0 (by omega) (by omega)
    refine Shc.sorted P0_ u9000_ l0 g1 g2 g3 c s _ ad lo.length cp w0 w hB ho0 hb1 hn1 hb2 hn2 hb3 hn3 (fun W hW i hi => ?_) h0 h40 hin hasc hs
    obtain ⟨ad2, e2, h2, -⟩ := at_T25 (hr W hW) (i : Int) (by omega) (by omega)
    obtain rfl := Option.some.inj e2
    simpa using h2
  · cases h

end Go.Proofs.Ytngbibpmaofamaa.QTest
