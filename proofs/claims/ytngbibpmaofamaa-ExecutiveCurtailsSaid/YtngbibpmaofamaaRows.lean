/-
  No cell of these rows narrows 'for every input' (looked for: loops, veiled, ifaces, maps, wideKeys, modest, calm, conditions, laid).
  DERIVED. THE GIVEN ROWS OF THIS SEAT. 4 by the template 'for every input the law returns true; each argument reads behind the call as it read before'; 0 by the template 'total and deterministic' (their statements: YtngbibpmaofamaaTotals.lean).
  GIVEN WITH THE SEED: the statements are not yours to turn. If you find one false, say at which input.
  Laid BY PROGRAM, IN A SANDBOX (cutbox-rows.mjs): the forced cells as the released guide's own fill.sh prints them over the translation f512b829e6e55301… (all of the seat's roots in one cut). By AI agents, Wed Nov 11 2026. No macro, syntax, notation, axiom, sorry.
-/
import Derived.Test.YtngbibpmaofamaaChecked
import GoSem.Claim
import GoSem.ClaimJoined
import GoSem.ClaimMapViews
import Derived.JoinedTies
import Derived.KernelRfl
namespace Go.Proofs.Ytngbibpmaofamaa
/- THE CELL 'sum', in the pinned program and in every row, IS THE sha256 OF THE DUMP (.gsa) THAT YtngbibpmaofamaaProg.lean LOADS. Nothing in Lean hashes anything: it is a label: what it is worth is what the hold of that sum in a sandbox is worth. -/
noncomputable def Try.pinned : Pinned := { name := "ytngbibpmaofamaa", sum := "f512b829e6e55301f5cd192522b0542103e549473146af29d6a4a59ee8a9f4b3", checked := Try.checked }
namespace Rows
def none {H : Type} : Left H := { results := [], args := [] }

/-- 'gridmarketlaw43.ExecutiveCurtails': WHATEVER THE INPUT: true; the input reads as it did. -/
def executiveCurtailsSpec : ChangeSpec := { name := "executiveCurtails", fn := fun _ => fun
  | [d1, d2, d3] => { results := [.lit (.bool true)], args := [d1, d2, d3] }
  | _ => none }
def executiveCurtailsRow : OpenClaim := { program := "ytngbibpmaofamaa", sum := "f512b829e6e55301f5cd192522b0542103e549473146af29d6a4a59ee8a9f4b3", func := "gridmarket/gridmarketlaw43.ExecutiveCurtails", spec := "executiveCurtails", unfollowed := true, recurses := true, plainKeys := false, apart := false }
def ExecutiveCurtailsSaid : Prop := executiveCurtailsRow.holds Try.pinned (OpenSpec.ofChange executiveCurtailsSpec)

/-- ITS FALSE NEIGHBOUR: 'it returns false'. Refute it at one input. -/
def executiveCurtailsWrong : ChangeSpec := { name := "executiveCurtails", fn := fun _ => fun
  | [d1, d2, d3] => { results := [.lit (.bool false)], args := [d1, d2, d3] }
  | _ => none }
def ExecutiveCurtailsWrongFalsely : Prop := executiveCurtailsRow.holds Try.pinned (OpenSpec.ofChange executiveCurtailsWrong)

/-- 'gridmarketlaw43.ExecutiveFair': WHATEVER THE INPUT: true; the input reads as it did. -/
def executiveFairSpec : ChangeSpec := { name := "executiveFair", fn := fun _ => fun
  | [d1, d2] => { results := [.lit (.bool true)], args := [d1, d2] }
  | _ => none }
def executiveFairRow : OpenClaim := { program := "ytngbibpmaofamaa", sum := "f512b829e6e55301f5cd192522b0542103e549473146af29d6a4a59ee8a9f4b3", func := "gridmarket/gridmarketlaw43.ExecutiveFair", spec := "executiveFair", unfollowed := true, recurses := true, plainKeys := false, apart := false }
def ExecutiveFairSaid : Prop := executiveFairRow.holds Try.pinned (OpenSpec.ofChange executiveFairSpec)

/-- ITS FALSE NEIGHBOUR: 'it returns false'. Refute it at one input. -/
def executiveFairWrong : ChangeSpec := { name := "executiveFair", fn := fun _ => fun
  | [d1, d2] => { results := [.lit (.bool false)], args := [d1, d2] }
  | _ => none }
def ExecutiveFairWrongFalsely : Prop := executiveFairRow.holds Try.pinned (OpenSpec.ofChange executiveFairWrong)

/-- 'gridmarketlaw34.SymmetryUnmerges': WHATEVER THE INPUT: true; the input reads as it did. -/
def symmetryUnmergesSpec : ChangeSpec := { name := "symmetryUnmerges", fn := fun _ => fun
  | [d1, d2, d3, d4, d5, d6, d7, d8] => { results := [.lit (.bool true)], args := [d1, d2, d3, d4, d5, d6, d7, d8] }
  | _ => none }
def symmetryUnmergesRow : OpenClaim := { program := "ytngbibpmaofamaa", sum := "f512b829e6e55301f5cd192522b0542103e549473146af29d6a4a59ee8a9f4b3", func := "gridmarket/gridmarketlaw34.SymmetryUnmerges", spec := "symmetryUnmerges", unfollowed := true, recurses := true, plainKeys := false, apart := false }
def SymmetryUnmergesSaid : Prop := symmetryUnmergesRow.holds Try.pinned (OpenSpec.ofChange symmetryUnmergesSpec)

/-- ITS FALSE NEIGHBOUR: 'it returns false'. Refute it at one input. -/
def symmetryUnmergesWrong : ChangeSpec := { name := "symmetryUnmerges", fn := fun _ => fun
  | [d1, d2, d3, d4, d5, d6, d7, d8] => { results := [.lit (.bool false)], args := [d1, d2, d3, d4, d5, d6, d7, d8] }
  | _ => none }
def SymmetryUnmergesWrongFalsely : Prop := symmetryUnmergesRow.holds Try.pinned (OpenSpec.ofChange symmetryUnmergesWrong)

/-- 'gridmarketlaw34.SymmetryCosts': WHATEVER THE INPUT: true; the input reads as it did. -/
def symmetryCostsSpec : ChangeSpec := { name := "symmetryCosts", fn := fun _ => fun
  | [d1, d2] => { results := [.lit (.bool true)], args := [d1, d2] }
  | _ => none }
def symmetryCostsRow : OpenClaim := { program := "ytngbibpmaofamaa", sum := "f512b829e6e55301f5cd192522b0542103e549473146af29d6a4a59ee8a9f4b3", func := "gridmarket/gridmarketlaw34.SymmetryCosts", spec := "symmetryCosts", unfollowed := true, recurses := true, plainKeys := false, apart := false }
def SymmetryCostsSaid : Prop := symmetryCostsRow.holds Try.pinned (OpenSpec.ofChange symmetryCostsSpec)

/-- ITS FALSE NEIGHBOUR: 'it returns false'. Refute it at one input. -/
def symmetryCostsWrong : ChangeSpec := { name := "symmetryCosts", fn := fun _ => fun
  | [d1, d2] => { results := [.lit (.bool false)], args := [d1, d2] }
  | _ => none }
def SymmetryCostsWrongFalsely : Prop := symmetryCostsRow.holds Try.pinned (OpenSpec.ofChange symmetryCostsWrong)

/- THE SECOND FORM. 'bulk': how many values and letters a reading holds, each counted each time it is reached (what is shared counts as often as it is met; a slice's spare places count too). A statement '..UptoSaid' is the law's where the arguments, and the package variables that the reading takes, are together of bulk at most 1048576: NARROWER than '..Said'. Prove '..Said' where nothing that the law and all that it calls make is longer than what came in: it says more and counts as full. Else prove '..UptoSaid'. A law counts once. -/
mutual
def uptoBulk {H : Type} : DataW H → Nat
  | .lit (.string bytes) => bytes.length + 1
  | .lit _ => 1
  | .nil => 1
  | .ptr d => uptoBulk d + 1
  | .slice elems spare => uptoBulkAll elems + uptoBulkAll spare + 1
  | .agg parts => uptoBulkAll parts + 1
  | .iface _ d => uptoBulk d + 1
  | .map entries => uptoBulkEntries entries + 1
  | .held _ => 1
def uptoBulkAll {H : Type} : List (DataW H) → Nat
  | [] => 0
  | d :: r => uptoBulk d + uptoBulkAll r
def uptoBulkEntries {H : Type} : List (Lit × DataW H) → Nat
  | [] => 0
  | x :: r => uptoBulkEntry x + uptoBulkEntries r
def uptoBulkEntry {H : Type} : Lit × DataW H → Nat
  | (.string bytes, d) => bytes.length + uptoBulk d + 1
  | (_, d) => uptoBulk d + 1
 end
def uptoSmall : (H : Type) → List (DataW H) → Bool := fun _ ds => decide (uptoBulkAll ds ≤ 1048576)
def OpenSpec.upto (s : _root_.Go.ChangeSpec) : _root_.Go.OpenSpec := { _root_.Go.OpenSpec.ofChange s with cond := some uptoSmall }

/-- 'gridmarketlaw43.ExecutiveCurtails', WHERE WHAT IT READS IS OF BULK AT MOST 1048576: true; the input reads as it did. -/
def executiveCurtailsUptoRow : OpenClaim := { program := "ytngbibpmaofamaa", sum := "f512b829e6e55301f5cd192522b0542103e549473146af29d6a4a59ee8a9f4b3", func := "gridmarket/gridmarketlaw43.ExecutiveCurtails", spec := "executiveCurtails", unfollowed := true, recurses := true, plainKeys := false, apart := false, narrowed := true }
def ExecutiveCurtailsUptoSaid : Prop := executiveCurtailsUptoRow.holds Try.pinned (OpenSpec.upto executiveCurtailsSpec)

/-- 'gridmarketlaw43.ExecutiveFair', WHERE WHAT IT READS IS OF BULK AT MOST 1048576: true; the input reads as it did. -/
def executiveFairUptoRow : OpenClaim := { program := "ytngbibpmaofamaa", sum := "f512b829e6e55301f5cd192522b0542103e549473146af29d6a4a59ee8a9f4b3", func := "gridmarket/gridmarketlaw43.ExecutiveFair", spec := "executiveFair", unfollowed := true, recurses := true, plainKeys := false, apart := false, narrowed := true }
def ExecutiveFairUptoSaid : Prop := executiveFairUptoRow.holds Try.pinned (OpenSpec.upto executiveFairSpec)

/-- 'gridmarketlaw34.SymmetryUnmerges', WHERE WHAT IT READS IS OF BULK AT MOST 1048576: true; the input reads as it did. -/
def symmetryUnmergesUptoRow : OpenClaim := { program := "ytngbibpmaofamaa", sum := "f512b829e6e55301f5cd192522b0542103e549473146af29d6a4a59ee8a9f4b3", func := "gridmarket/gridmarketlaw34.SymmetryUnmerges", spec := "symmetryUnmerges", unfollowed := true, recurses := true, plainKeys := false, apart := false, narrowed := true }
def SymmetryUnmergesUptoSaid : Prop := symmetryUnmergesUptoRow.holds Try.pinned (OpenSpec.upto symmetryUnmergesSpec)

/-- 'gridmarketlaw34.SymmetryCosts', WHERE WHAT IT READS IS OF BULK AT MOST 1048576: true; the input reads as it did. -/
def symmetryCostsUptoRow : OpenClaim := { program := "ytngbibpmaofamaa", sum := "f512b829e6e55301f5cd192522b0542103e549473146af29d6a4a59ee8a9f4b3", func := "gridmarket/gridmarketlaw34.SymmetryCosts", spec := "symmetryCosts", unfollowed := true, recurses := true, plainKeys := false, apart := false, narrowed := true }
def SymmetryCostsUptoSaid : Prop := symmetryCostsUptoRow.holds Try.pinned (OpenSpec.upto symmetryCostsSpec)

end Rows
end Go.Proofs.Ytngbibpmaofamaa
