/- ExecutiveFair, the plain law, part 6: Curtail: the merits in their order, and what holds after each of them. -/
import Derived.Test.YtngbibpmaofamaaFairE
namespace Go.Proofs.Fair
open Go.RowKit Go.Proofs.Ytngbibpmaofamaa.QTest Go.Proofs.YtngbibpmaofamaaW.PrintWords Go.Proofs.YtngbibpmaofamaaW.PrintMore

/-! ### Compact at a list that ascends -/
theorem compact_up (d : Array Int) (hs : ∀ i j, i < j → j < d.size → d[i]! ≤ d[j]!) : ∀ m, m ≤ d.size → (Lib.compactUpTo d m).Pairwise (· < ·) ∧ ∀ x, x ∈ Lib.compactUpTo d m ↔ ∃ j, j < m ∧ d[j]! = x
  | 0, _ => by
    refine ⟨by simp [Lib.compactUpTo], fun x => ?_⟩
    simp [Lib.compactUpTo]
  | m + 1, hm => by
    have ih := compact_up d hs m (by omega)
    rw [Lib.compactUpTo_succ]
    by_cases hk : Lib.keeps d m = true
    · rw [if_pos hk]
      have hk2 : m = 0 ∨ d[m]! ≠ d[m - 1]! := by simpa [Lib.keeps] using hk
      refine ⟨List.pairwise_append.2 ⟨ih.1, List.pairwise_singleton _ _, fun x hx y hy => ?_⟩, fun x => ?_⟩
      · rw [List.mem_singleton.1 hy]
        obtain ⟨j, hj, rfl⟩ := (ih.2 x).1 hx
        have h1 : d[m - 1]! ≤ d[m]! := hs (m - 1) m (by omega) (by omega)
        have h2 : d[j]! ≤ d[m - 1]! := by
          by_cases e : j = m - 1
          · rw [e]
            exact Int.le_refl _
          · exact hs j (m - 1) (by omega) (by omega)
        rcases hk2 with h | h <;> omega
      · rw [List.mem_append, ih.2 x, List.mem_singleton]
        constructor
        · rintro (⟨j, hj, e⟩ | rfl)
          · exact ⟨j, by omega, e⟩
          · exact ⟨m, by omega, rfl⟩
        · rintro ⟨j, hj, e⟩
          by_cases ej : j = m
          · exact .inr (by rw [← e, ej])
          · exact .inl ⟨j, by omega, e⟩
    · have hk2 : ¬ (m = 0 ∨ d[m]! ≠ d[m - 1]!) := by simpa [Lib.keeps] using hk
      have h3 : d[m]! = d[m - 1]! := by
        refine Classical.byContradiction fun h => hk2 (.inr h)
      have h4 : 0 < m := by
        refine Nat.pos_of_ne_zero fun h => hk2 (.inl h)
      rw [if_neg hk, List.append_nil]
      refine ⟨ih.1, fun x => ?_⟩
      rw [ih.2 x]
      constructor
      · rintro ⟨j, hj, e⟩
        exact ⟨j, by omega, e⟩
      · rintro ⟨j, hj, e⟩
        by_cases ej : j = m
        · exact ⟨m - 1, by omega, by rw [← h3, ← ej, e]⟩
        · exact ⟨j, by omega, e⟩

theorem compact_sorted (l : List Int) (h : l.Pairwise (· ≤ ·)) : (Lib.compact l).Pairwise (· < ·) ∧ ∀ x, x ∈ Lib.compact l ↔ x ∈ l := by
  have h1 := compact_up l.toArray (fun i j hij hj => by
    have hj2 : j < l.length := by simpa using hj
    rw [Shc.getBang l i (by omega), Shc.getBang l j hj2]
    exact List.pairwise_iff_getElem.1 h i j (by omega) hj2 hij) l.length (by simp)
  refine ⟨h1.1, fun x => (h1.2 x).trans ?_⟩
  constructor
  · rintro ⟨j, hj, rfl⟩
    rw [Shc.getBang l j hj]
    exact List.getElem_mem _
  · intro hx
    obtain ⟨j, hj, e⟩ := List.getElem_of_mem hx
    exact ⟨j, hj, by rw [Shc.getBang l j hj, e]⟩

/-! ### The sums of a merit -/
def csum (L : List S25) (cuts : List Int) (m : Int) : Int := sm L.length fun i => if me L i = m then rd cuts i else 0
def asum (L : List S25) (m : Int) : Int := sm L.length fun i => if me L i = m then am L i else 0
theorem asum_eq {L : List S25} (h : Small L) (m : Int) : ssum L m L.length = asum L m := by
  refine sm_congr _ fun i hi => ?_
  have := h.amt i hi
  show (if inG L m i then am L i else 0) = if me L i = m then am L i else 0
  by_cases h1 : me L i = m
  · rw [if_pos h1]
    by_cases h2 : am L i > 0
    · rw [if_pos ⟨h1, h2⟩]
    · rw [if_neg (fun h => h2 h.2)]
      omega
  · rw [if_neg h1, if_neg (fun h => h1 h.1)]

structure Inv (L : List S25) (need : Int) (P : List Int) (cuts : List Int) (rest : Int) : Prop where
  len : cuts.length = L.length
  zero : ∀ i : Nat, i < L.length → ¬ me L i ∈ P → rd cuts i = 0
  low : ∀ i : Nat, i < L.length → 0 ≤ rd cuts i ∧ rd cuts i ≤ am L i
  near : ∀ i : Nat, i < L.length → 0 < asum L (me L i) → rd cuts i * asum L (me L i) - csum L cuts (me L i) * am L i < asum L (me L i) ∧ -(asum L (me L i)) < rd cuts i * asum L (me L i) - csum L cuts (me L i) * am L i
  restE : rest = need - sm L.length (fun i => rd cuts i)
  rest0 : 0 ≤ rest
  full : 0 < rest → ∀ m ∈ P, csum L cuts m = asum L m
  order : ∀ m ∈ P, 0 < csum L cuts m → ∀ k ∈ P, k < m → csum L cuts k = asum L k

theorem Inv.step {L : List S25} (hs : Small L) {need rest : Int} {P cuts cuts' : List Int} (h : Inv L need P cuts rest) {m : Int} (hm : ∀ x ∈ P, x < m) (hp : Post L m (mn rest (ssum L m L.length)) cuts cuts') :
    Inv L need (P ++ [m]) cuts' (rest - mn rest (ssum L m L.length)) := by
  obtain ⟨c, hc⟩ : ∃ c, c = mn rest (ssum L m L.length) := ⟨_, rfl⟩
  have hSb := ssum_bound hs m L.length (Nat.le_refl _)
  have hb := mn_bound h.rest0 hSb.1
  have hcS : 0 < rest - c → c = ssum L m L.length := by
    rw [hc]
    unfold mn
    split <;> omega
  rw [← hc] at hb hp ⊢
  have hmP : ¬ m ∈ P := fun hx => by
    have := hm m hx
    omega
  have hz : ∀ i : Nat, i < L.length → me L i = m → rd cuts i = 0 := fun i hi e => h.zero i hi (by rw [e]; exact hmP)
  have hother : ∀ i : Nat, i < L.length → me L i ≠ m → rd cuts' i = rd cuts i := fun i hi e => hp.other i hi (fun hg => e hg.1)
  have hnone : ∀ i : Nat, i < L.length → me L i = m → ¬ inG L m i → rd cuts' i = 0 ∧ am L i = 0 := fun i hi e hg => by
    have h1 := (hs.amt i hi).1
    have h2 : ¬ am L i > 0 := fun h2 => hg ⟨e, h2⟩
    exact ⟨by rw [hp.other i hi hg]; exact hz i hi e, by omega⟩
  have hcm : csum L cuts' m = c := by
    rw [← hp.sum]
    refine sm_congr _ fun i hi => ?_
    show (if me L i = m then rd cuts' i else 0) = if inG L m i then rd cuts' i else 0
    by_cases h1 : me L i = m
    · rw [if_pos h1]
      by_cases hg : inG L m i
      · rw [if_pos hg]
      · rw [if_neg hg]
        exact (hnone i hi h1 hg).1
    · rw [if_neg h1, if_neg (fun hg => h1 hg.1)]
  have hco : ∀ m2, m2 ≠ m → csum L cuts' m2 = csum L cuts m2 := fun m2 hne => by
    refine sm_congr _ fun i hi => ?_
    show (if me L i = m2 then rd cuts' i else 0) = if me L i = m2 then rd cuts i else 0
    by_cases h1 : me L i = m2
    · rw [if_pos h1, if_pos h1]
      exact hother i hi (by rw [h1]; exact hne)
    · rw [if_neg h1, if_neg h1]
  have hne : ∀ x ∈ P, x ≠ m := fun x hx e => hmP (e ▸ hx)
  have hS := asum_eq hs m
  refine ⟨hp.len.trans h.len, fun i hi hni => ?_, fun i hi => ?_, fun i hi hpos => ?_, ?_, by omega, fun hr x hx => ?_, fun x hx hpos k hk hkx => ?_⟩
  · rw [List.mem_append, List.mem_singleton] at hni
    have h1 : me L i ≠ m := fun e => hni (.inr e)
    rw [hother i hi h1]
    exact h.zero i hi (fun e => hni (.inl e))
  · by_cases h1 : me L i = m
    · by_cases hg : inG L m i
      · exact hp.low i hi hg
      · have h2 := hnone i hi h1 hg
        omega
    · rw [hother i hi h1]
      exact h.low i hi
  · by_cases h1 : me L i = m
    · rw [h1] at hpos ⊢
      rw [hcm]
      by_cases hg : inG L m i
      · have h2 := hp.near i hi hg
        rw [hS] at h2
        exact h2
      · have h2 := hnone i hi h1 hg
        rw [h2.1, h2.2, Int.zero_mul, Int.mul_zero]
        omega
    · rw [hco _ h1, hother i hi h1]
      exact h.near i hi hpos
  · have e1 : sm L.length (fun i => rd cuts' i) = sm L.length (fun i => rd cuts i) + c := by
      rw [← hp.sum, ← sm_add]
      refine sm_congr _ fun i hi => ?_
      show rd cuts' i = rd cuts i + if inG L m i then rd cuts' i else 0
      by_cases hg : inG L m i
      · rw [if_pos hg, hz i hi hg.1]
        omega
      · rw [if_neg hg, hp.other i hi hg]
        omega
    rw [e1, h.restE]
    omega
  · rcases List.mem_append.1 hx with hx | hx
    · rw [hco x (hne x hx)]
      exact h.full (by omega) x hx
    · rw [List.mem_singleton.1 hx, hcm, ← hS]
      exact hcS hr
  · rcases List.mem_append.1 hx with hx2 | hx2
    · have hkm : k ≠ m := by
        have := hm x hx2
        omega
      rw [hco x (hne x hx2)] at hpos
      rw [hco k hkm]
      rcases List.mem_append.1 hk with hk2 | hk2
      · exact h.order x hx2 hpos k hk2 hkx
      · exact absurd (List.mem_singleton.1 hk2) hkm
    · have ex := List.mem_singleton.1 hx2
      rw [ex, hcm] at hpos
      have hkm : k ≠ m := by omega
      rw [hco k hkm]
      rcases List.mem_append.1 hk with hk2 | hk2
      · exact h.full (by omega) k hk2
      · exact absurd (List.mem_singleton.1 hk2) hkm
end Go.Proofs.Fair
