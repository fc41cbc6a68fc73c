/- What slices.SortStableFunc's text does to a row of numbers (swaps alone), and that it ends sorted, equals in the order in which they came: plain Lean, no program. -/
import Derived.Sort.LotA
namespace Go.Proofs.Stab
open Go.Sort
variable {α : Type} [Inhabited α]

/-- The order that a stable sort of ascending numbers ends in: by the comparison, and where it says 'equal' by the numbers themselves. -/
def stl (num : α → Int) (cf : α → α → Int) (x y : α) : Bool := decide (cf x y < 0) || (decide (cf x y = 0) && decide (num x < num y))

/-- 'for i := ..; i < n; i++ { swap a+i, b+i }'. -/
def swapFrom (a b : Nat) : Nat → Nat → Array α → Array α
  | 0, _, d => d
  | k + 1, i, d => swapFrom a b k (i + 1) (swp d (a + i) (b + i))

theorem swapFrom_size (a b k : Nat) : ∀ (i : Nat) (d : Array α), (swapFrom a b k i d).size = d.size := by
  induction k with
  | zero => intro i d; rfl
  | succ k ih => intro i d; rw [swapFrom, ih, size_swp]

theorem swapFrom_get (a b n : Nat) (k : Nat) : ∀ (i : Nat) (d : Array α), i + k = n → (a + n ≤ b) → b + n ≤ d.size →
    ∀ q, (swapFrom a b k i d)[q]! = if a + i ≤ q ∧ q < a + n then d[b + (q - a)]! else if b + i ≤ q ∧ q < b + n then d[a + (q - b)]! else d[q]! := by
  induction k with
  | zero =>
    intro i d hi hab hs q
    rw [swapFrom, if_neg (by omega), if_neg (by omega)]
  | succ k ih =>
    intro i d hi hab hs q
    rw [swapFrom, ih (i + 1) _ (by omega) hab (by rw [size_swp]; exact hs) q]
    by_cases h1 : q = a + i
    · subst h1
      rw [if_neg (by omega), if_neg (by omega), if_pos (by omega), swp_left _ _ _ (by omega) (by omega)]
      congr 1; omega
    · by_cases h2 : q = b + i
      · subst h2
        rw [if_neg (by omega), if_neg (by omega), if_neg (by omega), if_pos (by omega), swp_right _ _ _ (by omega)]
        congr 1; omega
      · by_cases h3 : a + i ≤ q ∧ q < a + n
        · rw [if_pos (by omega), if_pos h3, swp_other _ _ _ _ (by omega) (by omega)]
        · by_cases h4 : b + i ≤ q ∧ q < b + n
          · rw [if_neg (by omega), if_pos (by omega), if_neg h3, if_pos h4, swp_other _ _ _ _ (by omega) (by omega)]
          · rw [if_neg (by omega), if_neg (by omega), if_neg h3, if_neg h4, swp_other _ _ _ _ (by omega) (by omega)]

theorem swapFrom_perm (a b : Nat) (lo hi k : Nat) : ∀ (i : Nat) (d : Array α), lo ≤ a → lo ≤ b → a + i + k ≤ hi → b + i + k ≤ hi → hi ≤ d.size → PermIn lo hi d (swapFrom a b k i d) := by
  induction k with
  | zero => intro i d _ _ _ _ _; exact permIn_refl _ _ _
  | succ k ih =>
    intro i d h1 h2 h3 h4 h5
    rw [swapFrom]
    exact permIn_trans _ _ _ _ _ (swp_permIn d lo hi (a + i) (b + i) (by omega) (by omega) (by omega) (by omega) h5) (ih (i + 1) _ h1 h2 (by omega) (by omega) (by rw [size_swp]; exact h5))

/-- rotate: 'for i != j { .. }; swapRange(data, m-i, m, i)', so many rounds at the most. -/
def rotLoop (m : Nat) : Nat → Nat → Nat → Array α → Array α
  | 0, _, _, d => d
  | k + 1, i, j, d =>
    if i = j then swapFrom (m - i) m i 0 d
    else if j < i then rotLoop m k (i - j) j (swapFrom (m - i) m j 0 d)
    else rotLoop m k i (j - i) (swapFrom (m - i) (m + j - i) i 0 d)

theorem rotLoop_size (m k : Nat) : ∀ (i j : Nat) (d : Array α), (rotLoop m k i j d).size = d.size := by
  induction k with
  | zero => intro i j d; rfl
  | succ k ih =>
    intro i j d
    rw [rotLoop]
    split
    · rw [swapFrom_size]
    · split
      · rw [ih, swapFrom_size]
      · rw [ih, swapFrom_size]

theorem rotLoop_get (m k : Nat) : ∀ (i j : Nat) (d : Array α), i + j ≤ k → 0 < i → 0 < j → i ≤ m → m + j ≤ d.size →
    ∀ q, (rotLoop m k i j d)[q]! = if m - i ≤ q ∧ q < m - i + j then d[q + i]! else if m - i + j ≤ q ∧ q < m + j then d[q - j]! else d[q]! := by
  induction k with
  | zero => intro i j d h1 h2 h3; omega
  | succ k ih =>
    intro i j d hk hi hj him hs q
    rw [rotLoop]
    by_cases hij : i = j
    · subst hij
      rw [if_pos rfl, swapFrom_get (m - i) m i i 0 d (by omega) (by omega) (by omega) q]
      by_cases h1 : m - i ≤ q ∧ q < m
      · rw [if_pos (by omega), if_pos (by omega)]; congr 1; omega
      · by_cases h2 : m ≤ q ∧ q < m + i
        · rw [if_neg (by omega), if_pos (by omega), if_neg (by omega), if_pos (by omega)]; congr 1; omega
        · rw [if_neg (by omega), if_neg (by omega), if_neg (by omega), if_neg (by omega)]
    · rw [if_neg hij]
      by_cases hlt : j < i
      · rw [if_pos hlt, ih (i - j) j _ (by omega) (by omega) hj (by omega) (by rw [swapFrom_size]; exact hs) q]
        have G := swapFrom_get (m - i) m j j 0 d (by omega) (by omega) (by omega)
        by_cases h1 : m - i ≤ q ∧ q < m - i + j
        · rw [if_neg (by omega), if_neg (by omega), G, if_pos (by omega), if_pos h1]; congr 1; omega
        · by_cases h2 : m - i + j ≤ q ∧ q < m + j
          · by_cases h3 : q < m - (i - j) + j
            · rw [if_pos (by omega), G]
              by_cases h4 : q + (i - j) < m
              · rw [if_neg (by omega), if_neg (by omega), if_neg h1, if_pos h2]; omega
              · rw [if_neg (by omega), if_pos (by omega), if_neg h1, if_pos h2]; congr 1; omega
            · rw [if_neg (by omega), if_pos (by omega), G, if_neg (by omega), if_neg (by omega), if_neg h1, if_pos h2]
          · rw [if_neg (by omega), if_neg (by omega), G, if_neg (by omega), if_neg (by omega), if_neg h1, if_neg h2]
      · rw [if_neg hlt, ih i (j - i) _ (by omega) hi (by omega) him (by rw [swapFrom_size]; omega) q]
        have G := swapFrom_get (m - i) (m + j - i) i i 0 d (by omega) (by omega) (by omega)
        by_cases h2 : m - i + j ≤ q ∧ q < m + j
        · rw [if_neg (by omega), if_neg (by omega), G, if_neg (by omega), if_pos (by omega), if_neg (by omega), if_pos h2]; congr 1; omega
        · by_cases h1 : m - i ≤ q ∧ q < m - i + j
          · by_cases h3 : q < m - i + (j - i)
            · rw [if_pos (by omega), G, if_neg (by omega), if_neg (by omega), if_pos h1]
            · rw [if_neg (by omega), if_pos (by omega), G, if_pos (by omega), if_pos h1]; congr 1; omega
          · rw [if_neg (by omega), if_neg (by omega), G, if_neg (by omega), if_neg (by omega), if_neg h1, if_neg h2]

theorem rotLoop_perm (m lo hi k : Nat) : ∀ (i j : Nat) (d : Array α), i + j ≤ k → 0 < i → 0 < j → lo + i ≤ m → m + j ≤ hi → hi ≤ d.size → PermIn lo hi d (rotLoop m k i j d) := by
  induction k with
  | zero => intro i j d h1 h2 h3; omega
  | succ k ih =>
    intro i j d hk hi' hj h1 h2 hs
    rw [rotLoop]
    split
    · exact swapFrom_perm _ _ _ _ _ _ _ (by omega) (by omega) (by omega) (by omega) hs
    · split
      · exact permIn_trans _ _ _ _ _ (swapFrom_perm (m - i) m lo hi j 0 d (by omega) (by omega) (by omega) (by omega) hs) (ih _ _ _ (by omega) (by omega) (by omega) (by omega) (by omega) (by rw [swapFrom_size]; exact hs))
      · exact permIn_trans _ _ _ _ _ (swapFrom_perm (m - i) (m + j - i) lo hi i 0 d (by omega) (by omega) (by omega) (by omega) hs) (ih _ _ _ (by omega) (by omega) (by omega) (by omega) (by omega) (by rw [swapFrom_size]; exact hs))

end Go.Proofs.Stab
