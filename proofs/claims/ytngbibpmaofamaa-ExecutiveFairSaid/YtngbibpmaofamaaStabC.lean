/- slices.SortStableFunc at fewer than 40 ascending numbers: a permutation, in the order of 'stl': plain Lean, no program. -/
import Derived.Test.YtngbibpmaofamaaStabB
namespace Go.Proofs.Stab
open Go.Sort
variable {α : Type} [Inhabited α]

theorem insInner_congr {lt1 lt2 : α → α → Bool} (a : Nat) : ∀ (j : Nat) (d : Array α), j < d.size → (∀ p, a ≤ p → p < j → lt1 d[j]! d[p]! = lt2 d[j]! d[p]!) → insInner lt1 a j d = insInner lt2 a j d
  | 0, d, _, _ => by rw [insInner, insInner]
  | j + 1, d, hs, h => by
    rw [insInner, insInner]
    by_cases hj : j + 1 > a
    · rw [h j (by omega) (by omega)]
      split
      · refine insInner_congr a j _ (by rw [size_swp]; omega) (fun p hp hp2 => ?_)
        rw [swp_right _ _ _ (by omega), swp_other _ _ _ _ (by omega) (by omega)]
        exact h p hp (by omega)
      · rfl
    · simp [hj]

theorem insInner_perm (lt : α → α → Bool) (a : Nat) : ∀ (j : Nat) (d : Array α), j < d.size → a ≤ j → PermIn a (j + 1) d (insInner lt a j d)
  | 0, d, _, _ => by rw [insInner]; exact permIn_refl _ _ _
  | j + 1, d, hs, ha => by
    rw [insInner]
    split
    · rename_i hc
      have hc' : j + 1 > a := by simp at hc; exact hc.1
      exact permIn_trans _ _ _ _ _ (swp_permIn d a (j + 1 + 1) (j + 1) j (by omega) (by omega) (by omega) (by omega) (by omega)) (permIn_mono _ _ a (j + 1) a (j + 1 + 1) (Nat.le_refl _) (by omega) (by rw [size_swp]; omega) (insInner_perm lt a j _ (by rw [size_swp]; omega) (by omega)))
    · exact permIn_refl _ _ _

/-- Each is greater than all ahead of it: kept while the places ahead are permuted. -/
theorem insOuter_congr {lt1 lt2 : α → α → Bool} (num : α → Int) (hl : ∀ x y : α, num y < num x → lt1 x y = lt2 x y) (a b : Nat) : ∀ (n i : Nat) (d : Array α), b - i ≤ n → b ≤ d.size → a < i → (∀ p q, a ≤ p → p < q → i ≤ q → q < b → num d[p]! < num d[q]!) → insOuter lt1 a b i d = insOuter lt2 a b i d := by
  intro n
  induction n with
  | zero =>
    intro i d h1 _ _ _
    conv => lhs; rw [insOuter]
    conv => rhs; rw [insOuter]
    rw [if_neg (by omega), if_neg (by omega)]
  | succ n ih =>
    intro i d h1 hb ha h
    conv => lhs; rw [insOuter]
    conv => rhs; rw [insOuter]
    by_cases hi : i < b
    · rw [if_pos hi, if_pos hi, insInner_congr (lt1 := lt1) (lt2 := lt2) a i d (by omega) (fun p hp hp2 => hl _ _ (h p i hp hp2 (Nat.le_refl _) hi))]
      have P := insInner_perm lt2 a i d (by omega) (by omega)
      refine ih (i + 1) _ (by omega) (by rw [P.1]; exact hb) (by omega) (fun p q hp hpq hq hq2 => ?_)
      rw [P.2.1 q (.inr hq)]
      by_cases hp2 : p < i + 1
      · exact permIn_all d _ a (i + 1) (fun z => num z < num d[q]!) (by omega) P (fun r hr hr2 => h r q hr (by omega) (by omega) hq2) p hp hp2
      · rw [P.2.1 p (.inr (by omega))]
        exact h p q hp hpq (by omega) hq2
    · rw [if_neg hi, if_neg hi]

theorem insertion_congr {lt1 lt2 : α → α → Bool} (num : α → Int) (hl : ∀ x y : α, num y < num x → lt1 x y = lt2 x y) (a b : Nat) (d : Array α) (hb : b ≤ d.size) (h : ∀ p q, a ≤ p → p < q → q < b → num d[p]! < num d[q]!) : insertionSort lt1 d a b = insertionSort lt2 d a b := by
  unfold insertionSort
  exact insOuter_congr num hl a b (b - (a + 1)) (a + 1) d (by omega) hb (by omega) (fun p q hp hpq _ hq2 => h p q hp hpq hq2)

omit [Inhabited α] in
theorem clt_stl (num : α → Int) (cf : α → α → Int) (x y : α) (h : num y < num x) : clt cf x y = stl num cf x y := by
  unfold clt stl
  rw [decide_eq_false (show ¬ num x < num y by omega)]
  simp

/-- The whole, at fewer than 40 numbers. -/
def stable40 (cf : α → α → Int) (d : Array α) (n : Nat) : Array α :=
  let d1 := if 20 ≤ n then insertionSort (clt cf) (insertionSort (clt cf) d 0 20) 20 n else insertionSort (clt cf) d 0 n
  if 20 < n then symMerge cf n 0 20 n d1 else d1

theorem stable40_spec (num : α → Int) (cf : α → α → Int) (hS : SWO (stl num cf)) (d : Array α) (n : Nat) (hn : n < 40) (hs : d.size = n) (hA : ∀ p q, p < q → q < n → num d[p]! < num d[q]!) :
    PermIn 0 n d (stable40 cf d n) ∧ SortedIn (stl num cf) 0 n (stable40 cf d n) := by
  unfold stable40
  dsimp only
  by_cases h20 : 20 ≤ n
  · rw [if_pos h20]
    have e1 : insertionSort (clt cf) d 0 20 = insertionSort (stl num cf) d 0 20 := insertion_congr num (clt_stl num cf) 0 20 d (by omega) (fun p q _ h1 h2 => hA p q h1 (by omega))
    obtain ⟨P1, Q1⟩ := insertionSort_holds (lt := stl num cf) hS d 0 20 (by omega) (by omega)
    rw [e1]
    generalize insertionSort (stl num cf) d 0 20 = d1 at P1 Q1
    have z1 : d1.size = n := by rw [P1.1, hs]
    have e2 : insertionSort (clt cf) d1 20 n = insertionSort (stl num cf) d1 20 n := insertion_congr num (clt_stl num cf) 20 n d1 (by omega) (fun p q h0 h1 h2 => by rw [P1.2.1 p (.inr h0), P1.2.1 q (.inr (by omega))]; exact hA p q h1 h2)
    obtain ⟨P2, Q2⟩ := insertionSort_holds (lt := stl num cf) hS d1 20 n (by omega) (by omega)
    rw [e2]
    generalize insertionSort (stl num cf) d1 20 n = d2 at P2 Q2
    have z2 : d2.size = n := by rw [P2.1, z1]
    by_cases h21 : 20 < n
    · rw [if_pos h21]
      have Q1' : SortedIn (stl num cf) 0 20 d2 := fun x y hx hxy hy => by rw [P2.2.1 x (.inl (by omega)), P2.2.1 y (.inl hy)]; exact Q1 x y hx hxy hy
      have A2 : ∀ i j, i < 20 → 20 ≤ j → j < n → num d2[i]! < num d2[j]! := fun i j hi hj hj2 => by
        rw [P2.2.1 i (.inl hi)]
        refine permIn_all d1 d2 20 n (fun z => num d1[i]! < num z) (by omega) P2 (fun q hq hq2 => ?_) j hj hj2
        rw [P1.2.1 q (.inr hq)]
        exact permIn_all d d1 0 20 (fun z => num z < num d[q]!) (by omega) P1 (fun p _ hp => hA p q (by omega) hq2) i (by omega) hi
      obtain ⟨P3, Q3⟩ := symMerge_spec (cf := cf) hS n 0 20 n d2 (by omega) (by omega) h21 (by omega) Q1' Q2 (fun i j _ hi hj hj2 => clt_stl num cf _ _ (A2 i j hi hj hj2))
      exact ⟨permIn_trans _ _ _ _ _ (permIn_mono _ _ 0 20 0 n (Nat.le_refl _) (by omega) (by omega) P1) (permIn_trans _ _ _ _ _ (permIn_mono _ _ 20 n 0 n (by omega) (Nat.le_refl _) (by omega) P2) P3), Q3⟩
    · rw [if_neg h21]
      have en : n = 20 := by omega
      subst en
      exact ⟨permIn_trans _ _ _ _ _ P1 (permIn_mono _ _ 20 20 0 20 (by omega) (Nat.le_refl _) (by omega) P2), fun x y hx hxy hy => by rw [P2.2.1 x (.inl (by omega)), P2.2.1 y (.inl hy)]; exact Q1 x y hx hxy hy⟩
  · rw [if_neg h20, if_neg (by omega), insertion_congr num (clt_stl num cf) 0 n d (by omega) (fun p q _ h1 h2 => hA p q h1 h2)]
    exact insertionSort_holds (lt := stl num cf) hS d 0 n (by omega) (by omega)

omit [Inhabited α] in
/-- A comparison by a number for each, descending: 'cmp.Compare(key b, key a)'. -/
theorem swo_desc (num key : α → Int) (cf : α → α → Int) (h1 : ∀ x y, cf x y < 0 ↔ key y < key x) (h0 : ∀ x y, cf x y = 0 ↔ key x = key y) : SWO (stl num cf) := by
  have e : ∀ x y, stl num cf x y = decide (key y < key x ∨ (key x = key y ∧ num x < num y)) := by
    intro x y
    unfold stl
    simp only [h1, h0]
    by_cases a : key y < key x <;> by_cases b : key x = key y <;> by_cases c : num x < num y <;> simp [a, b, c]
  refine ⟨fun x => ?_, fun x y z => ?_, fun x y z => ?_⟩
  · rw [e]; simp
  · rw [e, e, e]; simp only [decide_eq_true_eq]; omega
  · rw [e, e, e]; simp only [decide_eq_false_iff_not]; omega
end Go.Proofs.Stab
