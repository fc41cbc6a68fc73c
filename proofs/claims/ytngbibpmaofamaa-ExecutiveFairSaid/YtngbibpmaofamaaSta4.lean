/- slices.symMergeCmpFunc at []int, one element on the right: what it does to the row. -/
import Derived.Test.YtngbibpmaofamaaSta2
namespace Go.Proofs.StabW
open Go.Shelf Go.RowKit Go.Lib Go.Sort Go.Proofs.Stab
variable {α : Type} [Inhabited α]

set_option maxHeartbeats 16000000 in
set_option maxRecDepth 1000000 in
/-- One element on the right. -/
theorem symR (enc : α → Value) (cf : α → α → Int) (g : Nat) (cb : Array Value) (blk off cap a m b : Nat) (d0 d : Array α) (w0 w : World)
    (eg : ∀ args w, (callFunc g args).run Try.prog w = .ok (.enter g args) w) (hcmp : CmpLays1 Try.prog g cb enc cf blk off d0.size w0) (R : Row1 enc w0 blk off d0) (hs : d0.size = d.size) (S : SW enc w0 blk off d w) (ham : a + 1 < m) (hmb : b = m + 1) (hb : b ≤ d.size) (hsz : d.size < 4611686018427387904) :
    Calls Try.prog 139 #[.slice (some ⟨blk, off, none⟩) d.size cap, .int .i64 a, .int .i64 m, .int .i64 b, .func (.func g) #[] cb] w fun e w' => e = .returned (.tuple #[]) ∧ SW enc w0 blk off (shL (m - bs (fun h => !clt cf d[m]! d[h]!) (m - a) a m) m d) w' := by
  have mixed := mixed
  have hcl0 := R.hO.cells
  simp only [Value.cells] at hcl0
  have hst := R.hO.store Try.prog
  have HC : Aside _ := hcmp
  have S0 : Aside (SW enc w0 blk off d w) := S
  clear S
  clear hcmp
  have H1 : Hid (b = m + 1) := hmb
  have hmb2 : m < b := by omega
  have hd1 : ((m : Int) - (a : Int) == 1) = false := by rw [beq_eq_false_iff_ne]; omega
  have hd2 : ((b : Int) - (m : Int) == 1) = true := by rw [beq_iff_eq]; omega
  clear hmb
  go_enter Try.func139, Try.ntmps139
  go_wp2
  go_loopg [14, 15, 16] (m - a) (fun kx s10 s11 s12 wr => ∃ (i j : Nat), s10 = .int .i64 i ∧ s11 = .int .i64 j ∧ a ≤ i ∧ i ≤ j ∧ j ≤ m ∧ j - i ≤ kx ∧ Aside (SW enc w0 blk off d wr) ∧ Hid (bs (fun h => !clt cf d[m]! d[h]!) kx i j = bs (fun h => !clt cf d[m]! d[h]!) (m - a) a m))
  case atStart => exact ⟨a, m, rfl, rfl, by omega, by omega, by omega, by omega, S0, rfl⟩
  case round =>
    clear S0
    obtain ⟨i, j, rfl, rfl, hi, hij, hj, hkx, S1, HO⟩ := hrel
    by_cases hlt : i < j
    · have hltz : (i : Int) < (j : Int) := by omega
      obtain ⟨gg, rfl⟩ : ∃ q, gk = q + 1 := ⟨gk - 1, by omega⟩
      obtain ⟨h, eh⟩ : ∃ h : Nat, h = (i + j) / 2 := ⟨_, rfl⟩
      have hh1 : i ≤ h := by omega
      have hh2 : h < j := by omega
      have HQ : Hid ((if (!clt cf d[m]! d[h]!) = true then bs (fun h => !clt cf d[m]! d[h]!) gg (h + 1) j else bs (fun h => !clt cf d[m]! d[h]!) gg i h) = bs (fun h => !clt cf d[m]! d[h]!) (m - a) a m) := by
        rw [← HO.out, bs, if_pos hlt, eh]; exact rfl
      clear HO
      have EH : Hid (h = (i + j) / 2) := eh
      clear eh
      go_wp2_with fail
      have ez : ((i : Int) + (j : Int)) / 2 = (h : Int) := by have := EH.out; omega
      rw [ez]
      clear ez
      have pa : (0 : Int) ≤ (h : Int) := by omega
      have ba : (h : Int) < (d.size : Int) := by omega
      have pc : (0 : Int) ≤ (m : Int) := by omega
      have bc : (m : Int) < (d.size : Int) := by omega
      obtain ⟨x, hx⟩ : ∃ x, x = d[m]! := ⟨_, rfl⟩
      obtain ⟨y, hy⟩ : ∃ x, x = d[h]! := ⟨_, rfl⟩
      have la := S1.out.cl R (by omega) m (by omega)
      have lb := S1.out.cl R (by omega) h (by omega)
      rw [← hx] at la
      rw [← hy] at lb
      have hc := S1.out.cmp HC.out (by omega) x y
      cases hv : clt cf d[m]! d[h]! with
      | false =>
        have HQ2 : Hid (bs (fun h => !clt cf d[m]! d[h]!) gg (h + 1) j = bs (fun h => !clt cf d[m]! d[h]!) (m - a) a m) := by rw [← HQ.out, if_pos (by rw [hv]; simp)]; exact rfl
        have hv2 : ¬ cf x y < 0 := by rw [hx, hy]; exact of_decide_eq_false hv
        have hd : decide (cf x y < 0) = false := decide_eq_false hv2
        clear hx hy hv HQ
        go_quiet_grown (first | (go_at_fn g; refine Calls.grown_of (hc _ _)))
        have S2 : Aside (SW enc w0 blk off d (grow (wr.drewN nq) osq)) := S1.out.grown nq osq
        clear la lb hc S1
        generalize grow (wr.drewN nq) osq = w2 at S2 ⊢
        clear nq osq
        go_wp2
        go_roundg gg
        case measure => omega
        case rel => exact ⟨h + 1, j, by go_num, rfl, by omega, by omega, hj, by omega, S2, HQ2⟩
      | true =>
        have HQ2 : Hid (bs (fun h => !clt cf d[m]! d[h]!) gg i h = bs (fun h => !clt cf d[m]! d[h]!) (m - a) a m) := by rw [← HQ.out, if_neg (by rw [hv]; simp)]; exact rfl
        have hv2 : cf x y < 0 := by rw [hx, hy]; exact of_decide_eq_true hv
        have hd : decide (cf x y < 0) = true := decide_eq_true hv2
        clear hx hy hv HQ
        go_quiet_grown (first | (go_at_fn g; refine Calls.grown_of (hc _ _)))
        have S2 : Aside (SW enc w0 blk off d (grow (wr.drewN nq) osq)) := S1.out.grown nq osq
        clear la lb hc S1
        generalize grow (wr.drewN nq) osq = w2 at S2 ⊢
        clear nq osq
        go_wp2
        go_roundg gg
        case measure => omega
        case rel => exact ⟨i, h, rfl, rfl, hi, by omega, by omega, by omega, S2, HQ2⟩
    · have hltz : ¬ (i : Int) < (j : Int) := by omega
      have HQ : Hid (bs (fun h => !clt cf d[m]! d[h]!) (m - a) a m = i) := by
        rw [← HO.out]
        cases gk with
        | zero => exact rfl
        | succ gg => rw [bs, if_neg hlt]; exact rfl
      clear HO
      clear hkx
      go_wp2
      go_loopg [17] (m - i) (fun kx s13 wr => ∃ (k : Nat) (dk : Array α), s13 = .int .i64 k ∧ i ≤ k ∧ k ≤ m ∧ k - i ≤ kx ∧ dk.size = d.size ∧ Aside (SW enc w0 blk off dk wr) ∧ Hid (shL (k - i) k dk = shL (m - i) m d))
      case atStart => exact ⟨m, d, rfl, by omega, by omega, by omega, rfl, S1, rfl⟩
      case round =>
        clear S1
        obtain ⟨k, dk, rfl, hk1, hk2, hkx, hds, S1, HO⟩ := hrel
        by_cases hlt2 : i < k
        · have hltz2 : (i : Int) < (k : Int) := by omega
          obtain ⟨k1, ek1⟩ : ∃ q, k = q + 1 := ⟨k - 1, by omega⟩
          have ek2 : (k : Int) - 1 = (k1 : Int) := by omega
          have EK := Lib.hid ek1
          have EK2 := Lib.hid ek2
          have hk3 : k1 < d.size := by omega
          clear ek1 ek2
          go_wp2_with fail
          have pa : (0 : Int) ≤ (k : Int) := by omega
          have ba : (k : Int) < (d.size : Int) := by omega
          have ec : ((k : Int) - 1).toNat = k1 := by have := EK2.out; omega
          have pc : (0 : Int) ≤ (k : Int) - 1 := by omega
          have bc : (k : Int) - 1 < (d.size : Int) := by omega
          have rc : IntKind.i64.wrap ((k : Int) - 1) = (k : Int) - 1 := by rw [IntKind.wrap_i64]; omega
          obtain ⟨x, hx⟩ : ∃ x, x = dk[k]! := ⟨_, rfl⟩
          obtain ⟨y, hy⟩ : ∃ x, x = dk[k1]! := ⟨_, rfl⟩
          have S2 : Aside (SW enc w0 blk off (swp dk k k1) ((wr.setCell ⟨blk, off + k, none⟩ (enc y)).setCell ⟨blk, off + k1, none⟩ (enc x)).drew) := by rw [hx, hy]; exact S1.out.swapped R k k1 (by omega) (by omega)
          have ca := S1.out.c1 R (by omega) k (by omega)
          have cb := S1.out.c1 R (by omega) k1 (by omega)
          have fa := S1.out.f1 R (by omega) k (by omega)
          have fb := S1.out.f1 R (by omega) k1 (by omega)
          obtain ⟨u, cc⟩ := S1.out.c2 R (by omega) k k1 (by omega) (by omega) (enc y)
          rw [← hx] at ca
          rw [← hy] at cb
          clear S1 hx hy
          go_wp2_with fail
          go_big_region
          clear ca cb cc fa fb
          generalize ((wr.setCell ⟨blk, off + k, none⟩ (enc y)).setCell ⟨blk, off + k1, none⟩ (enc x)).drew = w2 at S2 ⊢
          clear ec
          go_wp2
          go_roundg (k1 - i)
          case measure => have := EK.out; omega
          case rel => exact ⟨k1, swp dk k k1, by rw [← EK2.out], by have := EK.out; omega, by have := EK.out; omega, Nat.le_refl _, by rw [size_swp]; exact hds, S2, (show Hid _ from by rw [← HO.out, show k - i = (k1 - i) + 1 by have := EK.out; omega, shL, show k - 1 = k1 by have := EK.out; omega]; exact rfl)⟩
        · have hltz2 : ¬ (i : Int) < (k : Int) := by omega
          go_wp2
          refine bodyPost_ret (results_none rfl _ _ _) rfl ?_
          refine ⟨rfl, ?_⟩
          rw [HQ.out, ← HO.out, show k - i = 0 by omega, shL]
          exact S1.out
end Go.Proofs.StabW
