/- executive.share's comparison of two places, by their remainders: in every world in which its three variables and the loads lie as they did. -/
import Derived.Test.YtngbibpmaofamaaSta6
import Derived.Test.YtngbibpmaofamaaShelfA
import Derived.Deep.QuietTactic
import Derived.BigQuiet
namespace Go.Proofs.Shc
open Go.RowKit Go.Lib

/-- What a place is compared by: 'cut * amount % sum'. -/
def rem (c a s : Int) : Int := Int.tmod (wrap64 (c * a)) s

set_option maxHeartbeats 2000000 in
set_option maxRecDepth 100000 in
theorem closure (x y : Nat) (g1 g2 g3 : Nat) (c s ax ay : Int) (ad : Addr) (n cp : Nat) (W : World)
    (h1 : W.cell? ⟨g1, 0, none⟩ = some (.int .i64 c)) (h2 : W.cell? ⟨g2, 0, none⟩ = some (.slice (some ad) n cp)) (h3 : W.cell? ⟨g3, 0, none⟩ = some (.int .i64 s))
    (hx : x < n) (hy : y < n) (hax : W.cell? (ad.add (x * 2)) = some (.int .i64 ax)) (hay : W.cell? (ad.add (y * 2)) = some (.int .i64 ay)) (hs : ¬ s = 0) :
    Calls Try.prog 60 #[.int .i64 x, .int .i64 y, .pointer (some ⟨g1, 0, none⟩), .pointer (some ⟨g2, 0, none⟩), .pointer (some ⟨g3, 0, none⟩)] W fun e w' => e = .returned (.int .i64 (compareInt (rem c ay s) (rem c ax s))) ∧ ∃ q, w' = W.drewN q := by
  have hx2 : (x : Int) < (n : Int) := by omega
  have hy2 : (y : Int) < (n : Int) := by omega
  have hx0 : (0 : Int) ≤ (x : Int) := by omega
  have hy0 : (0 : Int) ≤ (y : Int) := by omega
  go_enter Try.func60, Try.ntmps60
  go_wp2_with fail
  go_quiet ((go_at_call 61; exact Calls.quiet_of_same (Try.cmp_Compare_int _ _ _)))
  go_wp2
  go_ret
  exact ⟨by first | rfl | (simp [rem]; done), nq, rfl⟩
end Go.Proofs.Shc
