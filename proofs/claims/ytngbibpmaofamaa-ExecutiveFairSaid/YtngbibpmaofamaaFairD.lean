/- ExecutiveFair, the plain law, part 4: share's whole answer. -/
import Derived.Test.YtngbibpmaofamaaFairC
namespace Go.Proofs.Fair
open Go.RowKit Go.Proofs.Ytngbibpmaofamaa.QTest Go.Proofs.YtngbibpmaofamaaW.PrintWords Go.Proofs.YtngbibpmaofamaaW.PrintMore

theorem sm_ge {f : Int → Int} : ∀ (n : Nat), (∀ j : Nat, j < n → 0 ≤ f j) → ∀ i : Nat, i < n → f i ≤ sm n f
  | 0, _, i, hi => by omega
  | n + 1, h, i, hi => by
    have h0 := sm_nonneg n (fun j hj => h j (by omega))
    have h1 := h n (by omega)
    show f i ≤ sm n f + f n
    by_cases e : i = n
    · subst e
      omega
    · have := sm_ge n (fun j hj => h j (by omega)) i (by omega)
      omega

/-- What share has done to the cuts, at a merit m, where it has cut c of its loads. -/
structure Post (L : List S25) (m c : Int) (cuts cuts' : List Int) : Prop where
  len : cuts'.length = cuts.length
  other : ∀ i : Nat, i < L.length → ¬ inG L m i → rd cuts' i = rd cuts i
  low : ∀ i : Nat, i < L.length → inG L m i → 0 ≤ rd cuts' i ∧ rd cuts' i ≤ am L i
  near : ∀ i : Nat, i < L.length → inG L m i → rd cuts' i * ssum L m L.length - c * am L i < ssum L m L.length ∧ -(ssum L m L.length) < rd cuts' i * ssum L m L.length - c * am L i
  sum : sm L.length (fun i => if inG L m i then rd cuts' i else 0) = c

theorem S_pos {L : List S25} (h : Small L) {m : Int} {i : Nat} (hi : i < L.length) (hg : inG L m i) : 0 < ssum L m L.length := by
  have h1 := sm_ge (f := fun i => if inG L m i then am L i else 0) L.length (fun j hj => by
    have := h.amt j hj
    show 0 ≤ if inG L m j then am L j else 0
    split <;> omega) i hi
  have h2 : (if inG L m i then am L i else 0) ≤ ssum L m L.length := h1
  rw [if_pos hg] at h2
  have := hg.2
  omega

/-- One load's part: rounded down, and one more if something is left of it. -/
theorem part {c s a q r e : Int} (hc0 : 0 ≤ c) (hcs : c ≤ s) (hs : 0 < s) (ha : 0 ≤ a) (hq : q = c * a / s) (hr : r = c * a % s) (he : e = 0 ∨ e = 1 ∧ 0 < r) :
    0 ≤ q + e ∧ q + e ≤ a ∧ (q + e) * s - c * a < s ∧ -s < (q + e) * s - c * a := by
  have h1 : s * q + r = c * a := by
    rw [hq, hr]
    exact Int.mul_ediv_add_emod _ _
  have h2 : 0 ≤ r := by rw [hr]; exact Int.emod_nonneg _ (by omega)
  have h3 : r < s := by rw [hr]; exact Int.emod_lt_of_pos _ hs
  have h4 : 0 ≤ q := by rw [hq]; exact Int.ediv_nonneg (Int.mul_nonneg hc0 ha) (by omega)
  have h5 : c * a ≤ s * a := Int.mul_le_mul_of_nonneg_right hcs ha
  have h6 : (q + e) * s = s * q + s * e := by rw [Int.add_mul, Int.mul_comm q s, Int.mul_comm e s]
  have h7 : s * q ≤ s * a := by omega
  have h8 : q ≤ a := Int.le_of_mul_le_mul_left h7 hs
  rcases he with rfl | ⟨rfl, hr1⟩
  · rw [h6, Int.mul_zero]
    omega
  · have h9 : s * q < s * a := by omega
    have h10 : q < a := Int.lt_of_mul_lt_mul_left h9 (by omega)
    rw [h6, Int.mul_one]
    omega

theorem key_eq {L : List S25} (h : Small L) {c s x : Int} (h0 : 0 ≤ c) (h1 : c ≤ 960) (hx0 : 0 ≤ x) (hx1 : x < L.length) : Shc.key L.length (fun i => (rd_T25 L i).f0) c s x = c * am L x % s := by
  unfold Shc.key Shc.rem
  rw [Shc.cl_in hx0 hx1]
  have ha := am_bound h hx0 hx1
  have hp := prod_bound h0 h1 ha.1 ha.2
  show Int.tmod (wrap64 (c * am L x)) s = _
  rw [w64 (by omega) (by omega), Int.tmod_eq_emod_of_nonneg hp.1]

theorem sort_desc {L : List S25} (h : Small L) {c s : Int} (h0 : 0 ≤ c) (h1 : c ≤ 960) (G : List Int) (hG : ∀ x ∈ G, 0 ≤ x ∧ x < L.length) :
    (Shc.sortG L.length (fun i => (rd_T25 L i).f0) c s G).Pairwise fun x y => c * am L y % s ≤ c * am L x % s := by
  have key : ∀ x y, Shc.lt L.length (fun i => (rd_T25 L i).f0) c s x y = true ↔ _ := Shc.lt_iff L.length (fun i => (rd_T25 L i).f0) c s
  have p := List.pairwise_mergeSort (le := fun x y => !Shc.lt L.length (fun i => (rd_T25 L i).f0) c s y x)
    (fun a b d h1 h2 => by
      simp only [Bool.not_eq_true', ← Bool.not_eq_true, key] at h1 h2 ⊢
      omega)
    (fun a b => by
      simp only [Bool.or_eq_true, Bool.not_eq_true', ← Bool.not_eq_true, key]
      omega) G
  have hm : ∀ x ∈ Shc.sortG L.length (fun i => (rd_T25 L i).f0) c s G, 0 ≤ x ∧ x < L.length := fun x hx => hG x ((List.mergeSort_perm _ _).mem_iff.1 hx)
  refine (List.Pairwise.and_mem.1 p).imp fun {x y} hxy => ?_
  obtain ⟨hx, hy, hle⟩ := hxy
  have ex := key_eq (s := s) h h0 h1 (hm x hx).1 (hm x hx).2
  have ey := key_eq (s := s) h h0 h1 (hm y hy).1 (hm y hy).2
  simp only [Bool.not_eq_true', ← Bool.not_eq_true, key] at hle
  rw [← ex, ← ey]
  omega
end Go.Proofs.Fair
