/- ExecutiveCurtails (gridmarketlaw43) returns true and never panics, for every list of loads, every need and both values of near: the program's Curtail gives the cuts and the error that the reference's Curtail gives. Conditions: those of the given statement alone (its guard lets in lists of at most 40 loads; a longer one answers true at once). -/
import Derived.Test.YtngbibpmaofamaaRows
import Derived.Test.YtngbibpmaofamaaMf
import Derived.WalkKit
import Derived.ProofKit
import Derived.OpenShut
import Derived.ShutString
import Derived.ChangeOld
import Derived.Below
import Derived.SizedLaws
set_option linter.all false
set_option linter.unusedSimpArgs false
set_option linter.unusedVariables false
namespace Go.Proofs.Ytngbibpmaofamaa.executiveCurtails
open Go.ChangeShapes Go.WideShapes Go.ChangeAt Go.RowKit Go.Proofs.Ytngbibpmaofamaa.Ab
set_option linter.unusedVariables false
theorem own : ownKnob Try.prog.godebug = none := by kernel_rfl
theorem laidOut : laidOutB Try.prog = true := by kernel_rfl

set_option maxRecDepth 100000 in
theorem told : ∀ av, ArgsT Try.prog 8 [22, 3, 4] av → ∃ L need near, av = [loadsV L, .int .i64 need, .bool near] := by
  intro av h
  simp only [ArgsT] at h
  obtain ⟨v0, r0, rfl, w0, v1, r1, rfl, w1, v2, r2, rfl, w2, rfl⟩ := h
  obtain ⟨xs, rfl, _, hx⟩ := w0.slice Try.underlying22
  obtain ⟨n, rfl, _⟩ := w1.int Try.underlying3
  obtain ⟨nb, rfl⟩ := w2.bool Try.underlying4
  obtain ⟨L, rfl, _⟩ := rows_map (f := lrow) (Q := fun _ => True) (xs := xs) (fun row hrow => by
    obtain ⟨a, b, rfl, ha, a2, b2, rfl, ha2, rfl⟩ := (hx row hrow).struct Try.underlying25
    obtain ⟨n1, rfl, _⟩ := ha.int Try.underlying3
    obtain ⟨n2, rfl, _⟩ := ha2.int Try.underlying3
    exact ⟨(n1, n2), rfl, trivial⟩)
  simp only [argV, Try.underlying22, Try.underlying3, Try.underlying4]
  exact ⟨L, n, nb, rfl⟩

set_option maxRecDepth 100000 in
theorem lifted (os : Os) (started : os.Started) (H : Type) (enc : TypeId × Value → H) :
    ReturnsInHanded {} Try.checked os 3 .any (Rows.executiveCurtailsSpec.pre6 enc Try.prog Try.f3 Rows.executiveCurtailsRow.domain false) (Rows.executiveCurtailsSpec.post enc Try.prog Try.f3 false true false false) := by
  refine returnsInHanded_of_change_sized (C := Try.checked) own started (by kernel_rfl) Try.func3
    (ChangeSpec.witness6 (enc := enc) (C := Try.checked) false ⟨#[], #[.slice none 0 0, .int .i64 0, .bool false], []⟩ 8 (by kernel_rfl) (by kernel_rfl) (by kernel_rfl) (by kernel_rfl)) ?_
  intro W base args ds gs before hval0 hW hcnd hsz0 _
  have hval : ∀ (j : Nat) t v, Try.f3.params[j]? = some t → args[j]? = some v → Value.okWide Try.prog W .any base t v := hval0
  have hW' := hW
  obtain ⟨p, q, hA0, hV, rfl, hfz, hnd⟩ := hW
  have hA : DataW.TrodAll enc Try.prog W 0 (fun _ => true) true Try.f3.params.toList args.toList ds p := hA0
  rw [Try.params3] at hA hval
  have hall := hA
  obtain ⟨v0, vs0, d0, ds0, p0, q0, hargs, rfl, rfl, h0, r0⟩ := trodAll_cons hA
  obtain ⟨v1, vs1, d1, ds1, p1, q1, rfl, rfl, rfl, h1, r1⟩ := trodAll_cons r0
  obtain ⟨v2, vs2, d2, ds2, p2, q2, rfl, rfl, rfl, h2, r2⟩ := trodAll_cons r1
  obtain ⟨rfl, rfl, rfl⟩ := trodAll_nil r2
  obtain rfl : args = #[v0, v1, v2] := by cases args; simp_all
  obtain ⟨rfl, rfl⟩ := trodVars_none hV
  refine (law_calls (k := 8) (ts := [22, 3, 4]) (by
    intro t ht
    simp only [List.mem_cons, List.not_mem_nil, or_false] at ht
    rcases ht with rfl | rfl | rfl <;> kernel_rfl) hall (fun j t v hj hv => hval j t v (by simpa using hj) (by simpa using hv)) (fun av hav => by
      obtain ⟨L, need, near, rfl⟩ := told av hav
      exact Curtails_run L need near)).mono fun e W' ⟨he, bel⟩ => ?_
  subst he
  exact ⟨_, rfl, _, _, _, [], _, [], hW', trodAll_mk1 (shut_bool Try.underlying4 _), trodAll_below laidOut bel _ _ _ _ (by
    intro t ht
    have ht' : t ∈ [22, 3, 4] := ht
    simp only [List.mem_cons, List.not_mem_nil, or_false] at ht'
    rcases ht' with rfl | rfl | rfl <;> exact ⟨by kernel_rfl, of_decide_eq_true (by kernel_rfl)⟩) hall, rfl, bel.frame _, fun h => by cases h⟩
theorem over : Rows.executiveCurtailsRow.holds Try.pinned (OpenSpec.ofChange Rows.executiveCurtailsSpec) :=
  OpenClaim.holds_of_wide 3 Try.f3 rfl rfl rfl rfl rfl rfl rfl ⟨rfl, rfl, rfl, rfl, rfl⟩ rfl rfl rfl rfl rfl (by kernel_rfl) Try.func3 (by kernel_rfl)
    (of_decide_eq_true (by kernel_rfl)) (by unfold Func.isWrapper; first | (rw [if_pos (by decide +kernel)]; kernel_rfl) | (rw [if_neg (by decide +kernel)]; exact ⟨rfl, rfl⟩))
    (fun os started H enc _ => lifted os started H enc)
theorem proved : Rows.ExecutiveCurtailsSaid := over
#print axioms proved
end Go.Proofs.Ytngbibpmaofamaa.executiveCurtails
namespace Go.Proofs.Ytngbibpmaofamaa
/-- The row, under a short name, for the claim. -/
theorem executiveCurtails_holds : Rows.ExecutiveCurtailsSaid := executiveCurtails.proved
end Go.Proofs.Ytngbibpmaofamaa
