/- slices.swapRangeCmpFunc, rotateCmpFunc and insertionSortCmpFunc at []int: what they do to the row, whatever the comparison. -/
import Derived.Shelf.SlSortCmp.Kit1
import Derived.Sort.WalkB2
import Derived.Sort.WalkB12
import Derived.Deep.LoopGhost
import Derived.BigRegion
import Derived.WalkKit
import Derived.Lib.Hide
import Derived.Test.YtngbibpmaofamaaProg
import Derived.Test.YtngbibpmaofamaaStabC
namespace Go.Proofs.StabW
open Go.Shelf Go.RowKit Go.Lib Go.Sort Go.Proofs.Stab
variable {α : Type} [Inhabited α]

theorem mixed : Try.prog.follows .mixedOrders = true := by kernel_rfl

set_option maxHeartbeats 4000000 in
set_option maxRecDepth 1000000 in
theorem swapRange_s (enc : α → Value) (fv : Value) (blk off cap a b n : Nat) (d0 d : Array α) (w0 w : World)
    (R : Row1 enc w0 blk off d0) (hs : d0.size = d.size) (S : SW enc w0 blk off d w) (ha : a + n ≤ d.size) (hb : b + n ≤ d.size) (hsz : d.size < 4611686018427387904) :
    Calls Try.prog 162 #[.slice (some ⟨blk, off, none⟩) d.size cap, .int .i64 a, .int .i64 b, .int .i64 n, fv] w fun e w' => e = .returned (.tuple #[]) ∧ SW enc w0 blk off (swapFrom a b n 0 d) w' := by
  have hcl0 := R.hO.cells
  simp only [Value.cells] at hcl0
  have hst := R.hO.store Try.prog
  have S0 : Aside (SW enc w0 blk off d w) := S
  clear S
  go_enter Try.func162, Try.ntmps162
  go_wp2
  go_loopg [10] n (fun kx s10 wr => ∃ (i : Nat) (dk : Array α), s10 = .int .i64 i ∧ i ≤ n ∧ n - i ≤ kx ∧ dk.size = d.size ∧ Aside (SW enc w0 blk off dk wr) ∧ Hid (swapFrom a b (n - i) i dk = swapFrom a b n 0 d))
  case atStart => exact ⟨0, d, rfl, by omega, by omega, rfl, S0, rfl⟩
  case round =>
    clear S0
    obtain ⟨i, dk, rfl, hi, hkx, hds, S1, HO⟩ := hrel
    by_cases hlt : i < n
    · have hltz : (i : Int) < (n : Int) := by omega
      go_wp2_with fail
      obtain ⟨iN, hiN⟩ : ∃ q, q = a + i := ⟨_, rfl⟩
      obtain ⟨jN, hjN⟩ : ∃ q, q = b + i := ⟨_, rfl⟩
      have ea : ((a : Int) + (i : Int)).toNat = iN := by omega
      have pa : (0 : Int) ≤ (a : Int) + (i : Int) := by omega
      have ba : (a : Int) + (i : Int) < (d.size : Int) := by omega
      have ra : IntKind.i64.wrap ((a : Int) + (i : Int)) = (a : Int) + (i : Int) := by rw [IntKind.wrap_i64]; omega
      have ec : ((b : Int) + (i : Int)).toNat = jN := by omega
      have pc : (0 : Int) ≤ (b : Int) + (i : Int) := by omega
      have bc : (b : Int) + (i : Int) < (d.size : Int) := by omega
      have rc : IntKind.i64.wrap ((b : Int) + (i : Int)) = (b : Int) + (i : Int) := by rw [IntKind.wrap_i64]; omega
      obtain ⟨x, hx⟩ : ∃ x, x = dk[a + i]! := ⟨_, rfl⟩
      obtain ⟨y, hy⟩ : ∃ x, x = dk[b + i]! := ⟨_, rfl⟩
      have S2 : Aside (SW enc w0 blk off (swp dk (a + i) (b + i)) ((wr.setCell ⟨blk, off + iN, none⟩ (enc y)).setCell ⟨blk, off + jN, none⟩ (enc x)).drew) := by rw [hiN, hjN, hx, hy]; exact S1.out.swapped R (a + i) (b + i) (by omega) (by omega)
      have ca := S1.out.c1 R (by omega) (a + i) (by omega)
      have cb := S1.out.c1 R (by omega) (b + i) (by omega)
      have fa := S1.out.f1 R (by omega) (a + i) (by omega)
      have fb := S1.out.f1 R (by omega) (b + i) (by omega)
      obtain ⟨u, cc⟩ := S1.out.c2 R (by omega) (a + i) (b + i) (by omega) (by omega) (enc y)
      rw [← hjN, ← hiN] at cc
      rw [← hx, ← hiN] at ca
      rw [← hy, ← hjN] at cb
      rw [← hiN] at fa
      rw [← hjN] at fb
      clear S1 hx hy hiN hjN
      go_wp2_with fail
      go_big_region
      clear ca cb cc fa fb
      generalize ((wr.setCell ⟨blk, off + iN, none⟩ (enc y)).setCell ⟨blk, off + jN, none⟩ (enc x)).drew = w2 at S2 ⊢
      clear ea ec
      go_wp2
      go_roundg (n - (i + 1))
      case measure => omega
      case rel => exact ⟨i + 1, swp dk (a + i) (b + i), by go_num, by omega, Nat.le_refl _, by rw [size_swp]; exact hds, S2, (show Hid _ from by rw [← HO.out, show n - i = (n - (i + 1)) + 1 by omega, swapFrom]; exact rfl)⟩
    · have hltz : ¬ (i : Int) < (n : Int) := by omega
      go_wp2
      go_end0
      refine ⟨rfl, ?_⟩
      rw [← HO.out, show n - i = 0 by omega, swapFrom]
      exact S1.out

set_option maxHeartbeats 4000000 in
set_option maxRecDepth 1000000 in
theorem rotate_s (enc : α → Value) (fv : Value) (blk off cap a m b : Nat) (d0 d : Array α) (w0 w : World)
    (R : Row1 enc w0 blk off d0) (hs : d0.size = d.size) (S : SW enc w0 blk off d w) (ham : a < m) (hmb : m < b) (hb : b ≤ d.size) (hsz : d.size < 4611686018427387904) :
    Calls Try.prog 155 #[.slice (some ⟨blk, off, none⟩) d.size cap, .int .i64 a, .int .i64 m, .int .i64 b, fv] w fun e w' => e = .returned (.tuple #[]) ∧ SW enc w0 blk off (rotLoop m (b - a) (m - a) (b - m) d) w' := by
  have S0 : Aside (SW enc w0 blk off d w) := S
  clear S
  have e1 : (m : Int) - (a : Int) = ((m - a : Nat) : Int) := by omega
  have e2 : (b : Int) - (m : Int) = ((b - m : Nat) : Int) := by omega
  have H1 := Lib.hid e1
  have H2 := Lib.hid e2
  clear e1 e2
  go_enter Try.func155, Try.ntmps155
  go_wp2
  go_loopg [10, 11] (b - a) (fun kx s10 s11 wr => ∃ (i j : Nat) (dk : Array α), s10 = .int .i64 i ∧ s11 = .int .i64 j ∧ 0 < i ∧ 0 < j ∧ i ≤ m ∧ m + j ≤ d.size ∧ i + j ≤ kx ∧ dk.size = d.size ∧ Aside (SW enc w0 blk off dk wr) ∧ Hid (rotLoop m kx i j dk = rotLoop m (b - a) (m - a) (b - m) d))
  case atStart => exact ⟨m - a, b - m, d, by rw [H1.out], by rw [H2.out], by omega, by omega, by omega, by omega, by omega, rfl, S0, rfl⟩
  case round =>
    clear S0
    obtain ⟨i, j, dk, rfl, rfl, hi, hj, him, hjs, hkx, hds, S1, HO⟩ := hrel
    obtain ⟨g, rfl⟩ : ∃ q, gk = q + 1 := ⟨gk - 1, by omega⟩
    by_cases hij : i = j
    · subst hij
      have HQ : Hid (swapFrom (m - i) m i 0 dk = rotLoop m (b - a) (m - a) (b - m) d) := by rw [← HO.out, rotLoop, if_pos rfl]; exact rfl
      clear HO
      have hb1 : ((i : Int) != (i : Int)) = false := by simp
      have hc : ∀ W, SW enc w0 blk off dk W → Calls Try.prog 162 #[.slice (some ⟨blk, off, none⟩) d.size cap, .int .i64 ((m - i : Nat) : Int), .int .i64 m, .int .i64 i, fv] W fun e w' => e = .returned (.tuple #[]) ∧ SW enc w0 blk off (swapFrom (m - i) m i 0 dk) w' := fun W hW => by
        rw [← hds]; exact swapRange_s enc fv blk off cap (m - i) m i d0 dk w0 W R (by omega) hW (by omega) (by omega) (by omega)
      have HC := Lib.hid hc
      clear hc
      go_wp2_with fail
      have e3 : (m : Int) - (i : Int) = ((m - i : Nat) : Int) := by omega
      rw [e3]
      clear e3
      refine (HC.out _ S1.out).mono ?_
      rintro e w' ⟨rfl, S2⟩
      rw [HQ.out] at S2
      have S3 := Lib.hid S2
      clear S2
      go_wp2
      go_end0
      exact ⟨rfl, S3.out⟩
    · have hb1 : ((i : Int) != (j : Int)) = true := by rw [bne_iff_ne]; omega
      by_cases hlt : j < i
      · have hltz : (j : Int) < (i : Int) := by omega
        have HQ : Hid (rotLoop m g (i - j) j (swapFrom (m - i) m j 0 dk) = rotLoop m (b - a) (m - a) (b - m) d) := by rw [← HO.out, rotLoop, if_neg hij, if_pos hlt]; exact rfl
        clear HO
        have hc : ∀ W, SW enc w0 blk off dk W → Calls Try.prog 162 #[.slice (some ⟨blk, off, none⟩) d.size cap, .int .i64 ((m - i : Nat) : Int), .int .i64 m, .int .i64 j, fv] W fun e w' => e = .returned (.tuple #[]) ∧ SW enc w0 blk off (swapFrom (m - i) m j 0 dk) w' := fun W hW => by
          rw [← hds]; exact swapRange_s enc fv blk off cap (m - i) m j d0 dk w0 W R (by omega) hW (by omega) (by omega) (by omega)
        have HC := Lib.hid hc
        clear hc
        go_wp2_with fail
        have e3 : (m : Int) - (i : Int) = ((m - i : Nat) : Int) := by omega
        rw [e3]
        clear e3
        refine (HC.out _ S1.out).mono ?_
        rintro e w' ⟨rfl, S2⟩
        have S3 : Aside _ := S2
        clear S2 S1
        go_wp2
        go_roundg g
        case measure => omega
        case rel => exact ⟨i - j, j, _, by go_num, rfl, by omega, hj, by omega, hjs, by omega, by rw [swapFrom_size]; exact hds, S3, HQ⟩
      · have hltz : ¬ (j : Int) < (i : Int) := by omega
        have HQ : Hid (rotLoop m g i (j - i) (swapFrom (m - i) (m + j - i) i 0 dk) = rotLoop m (b - a) (m - a) (b - m) d) := by rw [← HO.out, rotLoop, if_neg hij, if_neg hlt]; exact rfl
        clear HO
        have hc : ∀ W, SW enc w0 blk off dk W → Calls Try.prog 162 #[.slice (some ⟨blk, off, none⟩) d.size cap, .int .i64 ((m - i : Nat) : Int), .int .i64 ((m + j - i : Nat) : Int), .int .i64 i, fv] W fun e w' => e = .returned (.tuple #[]) ∧ SW enc w0 blk off (swapFrom (m - i) (m + j - i) i 0 dk) w' := fun W hW => by
          rw [← hds]; exact swapRange_s enc fv blk off cap (m - i) (m + j - i) i d0 dk w0 W R (by omega) hW (by omega) (by omega) (by omega)
        have HC := Lib.hid hc
        clear hc
        go_wp2_with fail
        have e3 : (m : Int) - (i : Int) = ((m - i : Nat) : Int) := by omega
        have e4 : (m : Int) + (j : Int) - (i : Int) = ((m + j - i : Nat) : Int) := by omega
        rw [e3, e4]
        clear e3 e4
        refine (HC.out _ S1.out).mono ?_
        rintro e w' ⟨rfl, S2⟩
        have S3 : Aside _ := S2
        clear S2 S1
        go_wp2
        go_roundg g
        case measure => omega
        case rel => exact ⟨i, j - i, _, rfl, by go_num, hi, by omega, him, by omega, by omega, by rw [swapFrom_size]; exact hds, S3, HQ⟩
end Go.Proofs.StabW
