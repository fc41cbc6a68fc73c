/- ExecutiveFair, the plain law, part 10: the last loops, and the statement. -/
import Derived.Test.YtngbibpmaofamaaFairI
namespace Go.Proofs.Fair
open Go.RowKit Go.Proofs.Ytngbibpmaofamaa.QTest Go.Proofs.YtngbibpmaofamaaW.PrintWords Go.Proofs.YtngbibpmaofamaaW.PrintMore

theorem law_l3 {need got : Int} {L : List S25} {cuts A B : List Int} {m : Nat} (hm : m < 3) (hord : ∀ k : Nat, k < m → 0 < rd A m → rd A k = rd B k) (hEnd : Ev (fun k => gridmarketlaw43_ExecutiveFair.l2 k need L cuts got A B ((m + 1 : Nat) : Int)) true) :
    ∀ n j : Nat, j + n = m → Ev (fun k => gridmarketlaw43_ExecutiveFair.l3 k need L cuts got A B m j) true
  | 0, j, hj => by
    have c1 : ¬ (j : Int) < (m : Int) := by omega
    refine Ev.succ (fun k => ?_) hEnd
    rw [gridmarketlaw43_ExecutiveFair.l3, if_neg c1, ar2 (n := 32) (j := m) (by omega) (by omega)]
  | n + 1, j, hj => by
    have ih := law_l3 hm hord hEnd n (j + 1) (by omega)
    have hjm : j < m := by omega
    have c1 : (j : Int) < (m : Int) := Int.ofNat_lt.2 hjm
    have c2 : (0 : Int) ≤ (m : Int) := Int.natCast_nonneg m
    have c3 : (m : Int) < 3 := by omega
    have c4 : (0 : Int) ≤ (j : Int) := Int.natCast_nonneg j
    have c5 : (j : Int) < 3 := by omega
    refine Ev.succ (fun k => ?_) ih
    rw [gridmarketlaw43_ExecutiveFair.l3, if_pos c1, if_pos c2, if_pos c3, ar2 (n := 32) (j := j) (by omega) (by omega)]
    by_cases h : rd A m > 0
    · rw [if_pos h, if_pos c4, if_pos c5, if_pos (hord j hjm h)]
    · rw [if_neg h]

theorem law_l2 {need got : Int} {L : List S25} {cuts A B : List Int} (hord : ∀ m k : Nat, m < 3 → k < m → 0 < rd A m → rd A k = rd B k) (hEnd : Ev (fun k => gridmarketlaw43_ExecutiveFair.l4 k need L cuts got A B 0) true) :
    ∀ n m : Nat, m + n = 3 → Ev (fun k => gridmarketlaw43_ExecutiveFair.l2 k need L cuts got A B m) true
  | 0, m, hm => by
    have c1 : ¬ (m : Int) < 3 := by omega
    exact Ev.succ (fun k => by rw [gridmarketlaw43_ExecutiveFair.l2, if_neg c1]) hEnd
  | n + 1, m, hm => by
    have ih := law_l2 hord hEnd n (m + 1) (by omega)
    have c1 : (m : Int) < 3 := by omega
    have h3 := law_l3 (m := m) (by omega) (fun k hk => hord m k (by omega) hk) ih m 0 (by omega)
    exact Ev.succ (fun k => by rw [gridmarketlaw43_ExecutiveFair.l2, if_pos c1]; rfl) h3

theorem near_w {x a y b : Int} (hx0 : 0 ≤ x) (hx1 : x ≤ 960) (ha0 : 0 ≤ a) (ha1 : a ≤ 960) (hy0 : 0 ≤ y) (hy1 : y ≤ 960) (hb0 : 0 ≤ b) (hb1 : b ≤ 30) : wrap64 (wrap64 (x * a) - wrap64 (y * b)) = x * a - y * b := by
  have p1 : 0 ≤ x * a := Int.mul_nonneg hx0 ha0
  have p2 : x * a ≤ 960 * 960 := Int.mul_le_mul hx1 ha1 ha0 (by decide)
  have p3 := prod_bound hy0 hy1 hb0 hb1
  generalize x * a = p at *
  generalize y * b = q at *
  rw [w64 (x := p) (by omega) (by omega), w64 (x := q) (by omega) (by omega), w64 (by omega) (by omega)]

theorem law_l4 {L : List S25} (hg : Good L) (h32 : L.length ≤ 32) {need : Int} {cuts : List Int} (hF : Fin L need cuts) :
    ∀ n i : Nat, i + n = L.length → Ev (fun k => gridmarketlaw43_ExecutiveFair.l4 k need L cuts (sm L.length fun i => rd cuts i) (row3 L (fun i => rd cuts i) L.length) (row3 L (am L) L.length) i) true
  | 0, i, hi => by
    have c1 : ¬ (i : Int) < (cuts.length : Int) := by rw [hF.len]; omega
    refine Ev.succ (g := fun _ => some true) (fun k => ?_) Ev.ret
    rw [gridmarketlaw43_ExecutiveFair.l4, if_neg c1, hF.total]
    simp
  | n + 1, i, hi => by
    have ih := law_l4 hg h32 hF n (i + 1) (by omega)
    have hil : i < L.length := by omega
    have c0 : (i : Int) < (cuts.length : Int) := by rw [hF.len]; omega
    have c1 : (i : Int) < (L.length : Int) := Int.ofNat_lt.2 hil
    have c2 : (0 : Int) ≤ (i : Int) := Int.natCast_nonneg i
    have hlow := hF.low i hil
    have ham := hg.amt i hil
    have hm := hg.mer i hil
    have c5 : 0 ≤ me L i := by omega
    have c6 : me L i < 3 := by omega
    have e1 : (rd_T25 L i).f0 = am L i := rfl
    have e2 : (rd_T25 L i).f1 = me L i := rfl
    have hf1 : ∀ i : Nat, i < L.length → 0 ≤ (fun i => rd cuts i) (i : Int) ∧ (fun i => rd cuts i) (i : Int) ≤ 30 := fun j hj => by
      have h1 := hF.low j hj
      have h2 := hg.amt j hj
      show 0 ≤ rd cuts j ∧ rd cuts j ≤ 30
      omega
    have hf2 : ∀ i : Nat, i < L.length → 0 ≤ am L i ∧ am L i ≤ 30 := fun j hj => by
      have h2 := hg.amt j hj
      omega
    have eA : rd (row3 L (fun i => rd cuts i) L.length) (me L i) = csum L cuts (me L i) := rd_row3 L _ _ hm
    have eB : rd (row3 L (am L) L.length) (me L i) = asum L (me L i) := rd_row3 L _ _ hm
    have bA : 0 ≤ csum L cuts (me L i) ∧ csum L cuts (me L i) ≤ L.length * 30 := cT_bound (m := me L i) hf1 L.length (Nat.le_refl _)
    have bB : 0 ≤ asum L (me L i) ∧ asum L (me L i) ≤ L.length * 30 := cT_bound (m := me L i) hf2 L.length (Nat.le_refl _)
    have e3 : wrap64 (wrap64 (rd cuts i * asum L (me L i)) - wrap64 (csum L cuts (me L i) * am L i)) = rd cuts i * asum L (me L i) - csum L cuts (me L i) * am L i := near_w (by omega) (by omega) (by omega) (by omega) (by omega) (by omega) (by omega) (by omega)
    have e4 : wrap64 (-(asum L (me L i))) = -(asum L (me L i)) := w64 (by omega) (by omega)
    refine Ev.succ (fun k => ?_) ih
    rw [gridmarketlaw43_ExecutiveFair.l4, if_pos c0, if_pos c2, if_pos c1, e1, e2, if_pos c5, if_pos c6, eA, eB, e3, e4, ar2 hil h32]
    by_cases h : asum L (me L i) > 0
    · have hn := hF.near i hil h
      rw [if_pos h, if_neg (by omega), if_neg (by omega)]
    · rw [if_neg h]

theorem executiveFair : gridmarketlaw43_ExecutiveFair.Pure := by
  intro raw a1 _ _ _ _
  by_cases hbig : (raw.length : Int) > 32
  · exact ⟨0, by unfold gridmarketlaw43_ExecutiveFair.f; rw [if_pos hbig]⟩
  · have hraw : raw.length ≤ 32 := by omega
    refine Ev.run (f := fun k => gridmarketlaw43_ExecutiveFair.f k raw a1) ?_
    have h0 := law_l0 raw a1 hraw (fun L hL hg => ?_) raw.length 0 (by omega) [] rfl ⟨fun i hi => absurd hi (Nat.not_lt_zero _), fun i hi => absurd hi (Nat.not_lt_zero _)⟩
    · refine Ev.congr (fun k => ?_) h0
      show gridmarketlaw43_ExecutiveFair.f k raw a1 = _
      unfold gridmarketlaw43_ExecutiveFair.f
      rw [if_neg hbig]
      rfl
    · have h32 : L.length ≤ 32 := by omega
      have hs := hg.small h32
      have hb0 : 0 ≤ sm L.length (am L) := sm_nonneg _ fun j hj => (hg.amt j hj).1
      have hb1 : sm L.length (am L) ≤ L.length * 30 := sm_bound _ fun j hj => Int.le_of_lt (hg.amt j hj).2
      have e1 : wrap64 (sm L.length (am L) + 1) = sm L.length (am L) + 1 := w64 (by omega) (by omega)
      obtain ⟨need, hn, hn0, hn1⟩ := mod_ok a1 (sm L.length (am L) + 1) (by omega) (by omega)
      obtain ⟨cuts, hc, hF⟩ := curtail_ev hs hn0 (by omega)
      have h4 := law_l4 hg h32 hF L.length 0 (by omega)
      have hord : ∀ m k : Nat, m < 3 → k < m → 0 < rd (row3 L (fun i => rd cuts i) L.length) m → rd (row3 L (fun i => rd cuts i) L.length) k = rd (row3 L (am L) L.length) k := fun m k hm hk hp => by
        have hm3 : (m : Int) = 0 ∨ (m : Int) = 1 ∨ (m : Int) = 2 := by omega
        have hk3 : (k : Int) = 0 ∨ (k : Int) = 1 ∨ (k : Int) = 2 := by omega
        rw [rd_row3 L _ _ hm3] at hp
        rw [rd_row3 L _ _ hk3, rd_row3 L _ _ hk3]
        exact hF.order m k (by omega) hp
      have h2 := law_l2 hord h4 2 1 (by omega)
      have h1 := law_l1 hg h32 hF h2 L.length 0 (by omega)
      have hj : Ev (fun k => gridmarketlaw43_ExecutiveFair.j1 k need L cuts ((cuts.length : Int) != (L.length : Int))) true := by
        have c1 : ((cuts.length : Int) != (L.length : Int)) = false := by
          rw [hF.len]
          simp
        refine Ev.succ (fun k => ?_) h1
        rw [c1, gridmarketlaw43_ExecutiveFair.j1, if_neg (by decide)]
        rfl
      obtain ⟨k1, hc⟩ := hc
      obtain ⟨k2, ha⟩ := awake_ev
      obtain ⟨k3, hj⟩ := hj
      refine ⟨k1 + k2 + k3, fun k hk => ?_⟩
      have b1 : executive_Curtail.f k L need = some (cuts, 0) := hc k (by omega)
      have b2 : gridmarketlaw43_awake.f k = some true := ha k (by omega)
      have b3 : gridmarketlaw43_ExecutiveFair.j1 k need L cuts ((cuts.length : Int) != (L.length : Int)) = some true := hj k (by omega)
      show lend k a1 L (sm L.length (am L)) = some true
      unfold lend
      rw [e1, hn, Option.bind_some, b1, Option.bind_some, b2, Option.bind_some, if_pos rfl, if_pos rfl]
      exact b3

end Go.Proofs.Fair
namespace Go.Proofs.Ytngbibpmaofamaa.Pure
theorem ExecutiveFair : QTest.gridmarketlaw43_ExecutiveFair.Pure := Fair.executiveFair
end Go.Proofs.Ytngbibpmaofamaa.Pure
