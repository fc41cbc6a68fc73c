/- The merge of slices.SortStableFunc's text, and the whole of it at fewer than 40 numbers: it ends sorted, equals in the order in which they came: plain Lean, no program. -/
import Derived.Test.YtngbibpmaofamaaStab
namespace Go.Proofs.Stab
open Go.Sort
variable {α : Type} [Inhabited α]

/-- The code's own test. -/
def clt (cf : α → α → Int) (x y : α) : Bool := decide (cf x y < 0)

/-- The binary search: 'for i < j { h := (i+j)/2; if p(h) { i = h+1 } else { j = h } }'. -/
def bs (p : Nat → Bool) : Nat → Nat → Nat → Nat
  | 0, i, _ => i
  | k + 1, i, j => if i < j then (if p ((i + j) / 2) = true then bs p k ((i + j) / 2 + 1) j else bs p k i ((i + j) / 2)) else i

theorem bs_spec (p : Nat → Bool) (k : Nat) : ∀ i j, j - i ≤ k → i ≤ j → (∀ x y, i ≤ x → x ≤ y → y < j → p y = true → p x = true) →
    i ≤ bs p k i j ∧ bs p k i j ≤ j ∧ (∀ x, i ≤ x → x < bs p k i j → p x = true) ∧ (∀ x, bs p k i j ≤ x → x < j → p x = false) := by
  induction k with
  | zero =>
    intro i j h1 h2 _
    rw [bs]
    exact ⟨Nat.le_refl _, h2, fun x _ _ => by omega, fun x _ _ => by omega⟩
  | succ k ih =>
    intro i j h1 h2 hm
    rw [bs]
    by_cases h3 : i < j
    · rw [if_pos h3]
      cases hp : p ((i + j) / 2) with
      | true =>
        rw [if_pos rfl]
        obtain ⟨a1, a2, a3, a4⟩ := ih ((i + j) / 2 + 1) j (by omega) (by omega) (fun x y hx hxy hy => hm x y (by omega) hxy hy)
        refine ⟨by omega, a2, fun x hx hx2 => ?_, a4⟩
        by_cases h4 : x ≤ (i + j) / 2
        · exact hm x ((i + j) / 2) hx h4 (by omega) hp
        · exact a3 x (by omega) hx2
      | false =>
        rw [if_neg (by simp)]
        obtain ⟨a1, a2, a3, a4⟩ := ih i ((i + j) / 2) (by omega) (by omega) (fun x y hx hxy hy => hm x y hx hxy (by omega))
        refine ⟨a1, by omega, a3, fun x hx hx2 => ?_⟩
        by_cases h4 : x < (i + j) / 2
        · exact a4 x hx h4
        · cases hq : p x with
          | false => rfl
          | true => rw [hm ((i + j) / 2) x (by omega) (by omega) hx2 hq] at hp; cases hp
    · rw [if_neg h3]
      exact ⟨Nat.le_refl _, h2, fun x _ _ => by omega, fun x _ _ => by omega⟩

theorem bs_range (p : Nat → Bool) (k : Nat) : ∀ i j, i ≤ j → i ≤ bs p k i j ∧ bs p k i j ≤ j := by
  induction k with
  | zero => intro i j h; rw [bs]; omega
  | succ k ih =>
    intro i j h
    rw [bs]
    split
    · split
      · have := ih ((i + j) / 2 + 1) j (by omega); omega
      · have := ih i ((i + j) / 2) (by omega); omega
    · omega

/-- 'for k := a; ..; k++ { swap k, k+1 }', so many rounds. -/
def shR : Nat → Nat → Array α → Array α
  | 0, _, d => d
  | k + 1, a, d => shR k (a + 1) (swp d a (a + 1))
theorem shR_size (k : Nat) : ∀ (a : Nat) (d : Array α), (shR k a d).size = d.size := by
  induction k with
  | zero => intro a d; rfl
  | succ k ih => intro a d; rw [shR, ih, size_swp]
theorem shR_get (k : Nat) : ∀ (a : Nat) (d : Array α), a + k < d.size → ∀ q, (shR k a d)[q]! = if a ≤ q ∧ q < a + k then d[q + 1]! else if q = a + k then d[a]! else d[q]! := by
  induction k with
  | zero =>
    intro a d h q
    rw [shR, if_neg (by omega)]
    by_cases e : q = a
    · subst e; rw [if_pos (by omega)]
    · rw [if_neg (by omega)]
  | succ k ih =>
    intro a d h q
    rw [shR, ih (a + 1) _ (by rw [size_swp]; omega) q]
    by_cases h1 : q = a
    · subst h1
      rw [if_neg (by omega), if_neg (by omega), if_pos (by omega), swp_left _ _ _ (by omega) (by omega)]
    · by_cases h2 : q = a + (k + 1)
      · subst h2
        rw [if_neg (by omega), if_pos (by omega), if_neg (by omega), if_pos rfl, swp_right _ _ _ (by omega)]
      · by_cases h3 : a ≤ q ∧ q < a + (k + 1)
        · rw [if_pos (by omega), if_pos h3, swp_other _ _ _ _ (by omega) (by omega)]
        · rw [if_neg (by omega), if_neg (by omega), if_neg h3, if_neg h2, swp_other _ _ _ _ (by omega) (by omega)]
theorem shR_perm (lo hi k : Nat) : ∀ (a : Nat) (d : Array α), lo ≤ a → a + k < hi → hi ≤ d.size → PermIn lo hi d (shR k a d) := by
  induction k with
  | zero => intro a d _ _ _; exact permIn_refl _ _ _
  | succ k ih =>
    intro a d h1 h2 h3
    rw [shR]
    exact permIn_trans _ _ _ _ _ (swp_permIn d lo hi a (a + 1) h1 (by omega) (by omega) (by omega) h3) (ih (a + 1) _ (by omega) (by omega) (by rw [size_swp]; exact h3))

/-- 'for k := m; ..; k-- { swap k, k-1 }', so many rounds. -/
def shL : Nat → Nat → Array α → Array α
  | 0, _, d => d
  | k + 1, m, d => shL k (m - 1) (swp d m (m - 1))
theorem shL_size (k : Nat) : ∀ (a : Nat) (d : Array α), (shL k a d).size = d.size := by
  induction k with
  | zero => intro a d; rfl
  | succ k ih => intro a d; rw [shL, ih, size_swp]
theorem shL_get (k : Nat) : ∀ (m : Nat) (d : Array α), k ≤ m → m < d.size → ∀ q, (shL k m d)[q]! = if m - k < q ∧ q ≤ m then d[q - 1]! else if q = m - k then d[m]! else d[q]! := by
  induction k with
  | zero =>
    intro m d h1 h q
    rw [shL, if_neg (by omega)]
    by_cases e : q = m
    · subst e; rw [if_pos (by omega)]
    · rw [if_neg (by omega)]
  | succ k ih =>
    intro m d h1 h q
    rw [shL, ih (m - 1) _ (by omega) (by rw [size_swp]; omega) q]
    by_cases h2 : q = m
    · subst h2
      rw [if_neg (by omega), if_neg (by omega), if_pos (by omega), swp_left _ _ _ (by omega) (by omega)]
    · by_cases h3 : q = m - (k + 1)
      · subst h3
        rw [if_neg (by omega), if_pos (by omega), if_neg (by omega), if_pos rfl, swp_right _ _ _ (by omega)]
      · by_cases h4 : m - (k + 1) < q ∧ q ≤ m
        · rw [if_pos (by omega), if_pos h4, swp_other _ _ _ _ (by omega) (by omega)]
        · rw [if_neg (by omega), if_neg (by omega), if_neg h4, if_neg h3, swp_other _ _ _ _ (by omega) (by omega)]
theorem shL_perm (lo hi k : Nat) : ∀ (m : Nat) (d : Array α), lo + k ≤ m → m < hi → hi ≤ d.size → PermIn lo hi d (shL k m d) := by
  induction k with
  | zero => intro a d _ _ _; exact permIn_refl _ _ _
  | succ k ih =>
    intro m d h1 h2 h3
    rw [shL]
    exact permIn_trans _ _ _ _ _ (swp_permIn d lo hi m (m - 1) (by omega) (by omega) (by omega) (by omega) h3) (ih (m - 1) _ (by omega) (by omega) (by rw [size_swp]; exact h3))

/-- The three parts of symMerge's last case. -/
def mid (a b : Nat) : Nat := (a + b) / 2
def st0 (a m b : Nat) : Nat := if mid a b < m then mid a b + m - b else a
def en0 (a m b : Nat) : Nat := if mid a b < m then mid a b else m
def cut (cf : α → α → Int) (a m b : Nat) (d : Array α) : Nat := bs (fun c => !clt cf d[mid a b + m - 1 - c]! d[c]!) (en0 a m b - st0 a m b) (st0 a m b) (en0 a m b)
def rot (m s e : Nat) (d : Array α) : Array α := if s < m ∧ m < e then rotLoop m (e - s) (m - s) (e - m) d else d

def symMerge (cf : α → α → Int) : Nat → Nat → Nat → Nat → Array α → Array α
  | 0, _, _, _, d => d
  | k + 1, a, m, b, d =>
    if m - a = 1 then shR (bs (fun h => clt cf d[h]! d[a]!) (b - m) m b - 1 - a) a d
    else if b - m = 1 then shL (m - bs (fun h => !clt cf d[m]! d[h]!) (m - a) a m) m d
    else
      let s := cut cf a m b d
      let e := mid a b + m - s
      let d1 := rot m s e d
      let d2 := if a < s ∧ s < mid a b then symMerge cf k a s (mid a b) d1 else d1
      if mid a b < e ∧ e < b then symMerge cf k (mid a b) e b d2 else d2

theorem rot_size (m s e : Nat) (d : Array α) : (rot m s e d).size = d.size := by
  unfold rot; split
  · rw [rotLoop_size]
  · rfl
theorem symMerge_size (cf : α → α → Int) (k : Nat) : ∀ a m b d, (symMerge cf k a m b d).size = d.size := by
  induction k with
  | zero => intro a m b d; rfl
  | succ k ih =>
    intro a m b d
    rw [symMerge]
    split
    · rw [shR_size]
    · split
      · rw [shL_size]
      · dsimp only
        split
        · rw [ih]; split
          · rw [ih, rot_size]
          · rw [rot_size]
        · split
          · rw [ih, rot_size]
          · rw [rot_size]

theorem cut_range (cf : α → α → Int) (a m b : Nat) (d : Array α) (h1 : a < m) (h2 : m < b) : a ≤ cut cf a m b d ∧ cut cf a m b d ≤ m ∧ cut cf a m b d ≤ mid a b ∧ m ≤ mid a b + m - cut cf a m b d ∧ mid a b + m - cut cf a m b d ≤ b := by
  have h := bs_range (fun c => !clt cf d[mid a b + m - 1 - c]! d[c]!) (en0 a m b - st0 a m b) (st0 a m b) (en0 a m b) (by unfold st0 en0 mid; split <;> omega)
  have e : cut cf a m b d = bs (fun c => !clt cf d[mid a b + m - 1 - c]! d[c]!) (en0 a m b - st0 a m b) (st0 a m b) (en0 a m b) := rfl
  rw [← e] at h
  clear e
  revert h
  generalize cut cf a m b d = s
  unfold st0 en0 mid
  intro h
  split at h <;> omega

variable {cf : α → α → Int} {L : α → α → Bool}

theorem sorted_le (hS : SWO L) {a b i j : Nat} {d : Array α} (h : SortedIn L a b d) (h1 : a ≤ i) (h2 : i ≤ j) (h3 : j < b) : L d[j]! d[i]! = false := by
  by_cases e : i = j
  · subst e; exact hS.irrefl _
  · exact h i j h1 (by omega) h3

omit [Inhabited α] in
theorem asym (hS : SWO L) {x y : α} (h : L x y = true) : L y x = false := by
  cases e : L y x with
  | false => rfl
  | true => have := hS.trans _ _ _ h e; rw [hS.irrefl] at this; cases this

/-- symMerge merges, the left block's ahead of the right block's where they are equal. -/
theorem symMerge_spec (hS : SWO L) (k : Nat) : ∀ (a m b : Nat) (d : Array α), b - a ≤ k → a < m → m < b → b ≤ d.size → SortedIn L a m d → SortedIn L m b d →
    (∀ i j, a ≤ i → i < m → m ≤ j → j < b → clt cf d[j]! d[i]! = L d[j]! d[i]!) → PermIn a b d (symMerge cf k a m b d) ∧ SortedIn L a b (symMerge cf k a m b d) := by
  induction k with
  | zero => intro a m b d h1 h2 h3; omega
  | succ k ih =>
    intro a m b d hk ham hmb hb S1 S2 X
    rw [symMerge]
    by_cases c1 : m - a = 1
    · rw [if_pos c1]
      have hp : ∀ x, m ≤ x → x < b → clt cf d[x]! d[a]! = L d[x]! d[a]! := fun x hx hx2 => X a x (Nat.le_refl _) ham hx hx2
      obtain ⟨r1, r2, r3, r4⟩ := bs_spec (fun h => clt cf d[h]! d[a]!) (b - m) m b (Nat.le_refl _) (by omega) (fun x y hx hxy hy h => by
        rw [hp y (by omega) hy] at h
        rw [hp x hx (by omega)]
        cases e : L d[x]! d[a]! with
        | true => rfl
        | false => rw [hS.ntrans _ _ _ (sorted_le hS S2 hx hxy hy) e] at h; cases h)
      generalize bs (fun h => clt cf d[h]! d[a]!) (b - m) m b = i at r1 r2 r3 r4
      refine ⟨shR_perm a b _ a d (Nat.le_refl _) (by omega) hb, ?_⟩
      intro x y hx hxy hy
      rw [shR_get _ a d (by omega), shR_get _ a d (by omega)]
      have e1 : a + (i - 1 - a) = i - 1 := by omega
      rw [e1]
      by_cases hx1 : x < i - 1
      · rw [if_pos (show a ≤ x ∧ x < i - 1 from ⟨hx, hx1⟩)]
        have hL : L d[x + 1]! d[a]! = true := by rw [← hp (x + 1) (by omega) (by omega)]; exact r3 (x + 1) (by omega) (by omega)
        by_cases hy1 : y < i - 1
        · rw [if_pos (by omega)]; exact S2 (x + 1) (y + 1) (by omega) (by omega) (by omega)
        · rw [if_neg (by omega)]
          by_cases hy2 : y = i - 1
          · rw [if_pos hy2]; exact asym hS hL
          · rw [if_neg hy2]; exact S2 (x + 1) y (by omega) (by omega) hy
      · rw [if_neg (by omega)]
        by_cases hx2 : x = i - 1
        · rw [if_pos hx2, if_neg (by omega), if_neg (by omega), ← hp y (by omega) hy]
          exact r4 y (by omega) hy
        · rw [if_neg hx2, if_neg (by omega), if_neg (by omega)]; exact S2 x y (by omega) hxy hy
    · rw [if_neg c1]
      by_cases c2 : b - m = 1
      · rw [if_pos c2]
        have hp : ∀ x, a ≤ x → x < m → clt cf d[m]! d[x]! = L d[m]! d[x]! := fun x hx hx2 => X x m hx hx2 (Nat.le_refl _) (by omega)
        obtain ⟨r1, r2, r3, r4⟩ := bs_spec (fun h => !clt cf d[m]! d[h]!) (m - a) a m (Nat.le_refl _) (by omega) (fun x y hx hxy hy h => by
          simp only [Bool.not_eq_true'] at h ⊢
          rw [hp y (by omega) hy] at h
          rw [hp x hx (by omega)]
          exact hS.ntrans _ _ _ h (sorted_le hS S1 hx hxy hy))
        generalize bs (fun h => !clt cf d[m]! d[h]!) (m - a) a m = i at r1 r2 r3 r4
        refine ⟨shL_perm a b _ m d (by omega) hmb hb, ?_⟩
        intro x y hx hxy hy
        rw [shL_get _ m d (by omega) (by omega), shL_get _ m d (by omega) (by omega)]
        have e1 : m - (m - i) = i := by omega
        rw [e1]
        by_cases hy1 : i < y
        · rw [if_pos (show i < y ∧ y ≤ m by omega)]
          by_cases hx1 : i < x
          · rw [if_pos (by omega)]; exact S1 (x - 1) (y - 1) (by omega) (by omega) (by omega)
          · rw [if_neg (by omega)]
            by_cases hx2 : x = i
            · rw [if_pos hx2]
              have h := r4 (y - 1) (by omega) (by omega)
              simp only [Bool.not_eq_false'] at h
              rw [hp (y - 1) (by omega) (by omega)] at h
              exact asym hS h
            · rw [if_neg hx2]; exact S1 x (y - 1) hx (by omega) (by omega)
        · rw [if_neg (show ¬ (i < y ∧ y ≤ m) by omega), if_neg (show ¬ (i < x ∧ x ≤ m) by omega), if_neg (show ¬ x = i by omega)]
          by_cases hy2 : y = i
          · rw [if_pos hy2]
            have h := r3 x hx (by omega)
            simp only [Bool.not_eq_true'] at h
            rw [hp x hx (by omega)] at h
            exact h
          · rw [if_neg hy2]; exact S1 x y hx hxy (by omega)
      · rw [if_neg c2]
        dsimp only
        have hq : ∀ c, st0 a m b ≤ c → c < en0 a m b → a ≤ c ∧ c < m ∧ m ≤ mid a b + m - 1 - c ∧ mid a b + m - 1 - c < b := by
          unfold st0 en0 mid; intro c; split <;> omega
        have hp : ∀ c, st0 a m b ≤ c → c < en0 a m b → clt cf d[mid a b + m - 1 - c]! d[c]! = L d[mid a b + m - 1 - c]! d[c]! := fun c h1 h2 => by
          obtain ⟨q1, q2, q3, q4⟩ := hq c h1 h2
          exact X c _ q1 q2 q3 q4
        have hle : st0 a m b ≤ en0 a m b := by unfold st0 en0 mid; split <;> omega
        obtain ⟨r1, r2, r3, r4⟩ := bs_spec (fun c => !clt cf d[mid a b + m - 1 - c]! d[c]!) (en0 a m b - st0 a m b) (st0 a m b) (en0 a m b) (Nat.le_refl _) hle (fun x y hx hxy hy h => by
          simp only [Bool.not_eq_true'] at h ⊢
          rw [hp y (by omega) hy] at h
          rw [hp x hx (by omega)]
          obtain ⟨q1, q2, q3, q4⟩ := hq x hx (by omega)
          obtain ⟨q5, q6, q7, q8⟩ := hq y (by omega) hy
          exact hS.ntrans _ _ _ (sorted_le hS S2 q7 (by omega) q4) (hS.ntrans _ _ _ h (sorted_le hS S1 q1 hxy q6)))
        obtain ⟨t1, t2, t3, t4, t5⟩ := cut_range cf a m b d ham hmb
        have es : cut cf a m b d = bs (fun c => !clt cf d[mid a b + m - 1 - c]! d[c]!) (en0 a m b - st0 a m b) (st0 a m b) (en0 a m b) := rfl
        rw [← es] at r1 r2 r3 r4
        clear es
        generalize hs : cut cf a m b d = s at *
        have hs0 : s = st0 a m b → s = a ∨ mid a b + m - s = b := by unfold st0 mid; intro h; split at h <;> omega
        have hs1 : s = en0 a m b → s = m ∨ mid a b + m - s = m := by unfold en0 mid; intro h; split at h <;> omega
        have hM1 : a < mid a b := by unfold mid; omega
        have hM2 : mid a b < b := by unfold mid; omega
        -- what the cut says
        have K1 : ∀ i j, a ≤ i → i < s → mid a b + m - s ≤ j → j < b → L d[j]! d[i]! = false := by
          intro i j hi hi2 hj hj2
          by_cases h : s = st0 a m b
          · rcases hs0 h with e | e <;> omega
          · have h2 := r3 (s - 1) (by omega) (by omega)
            simp only [Bool.not_eq_true'] at h2
            rw [hp (s - 1) (by omega) (by omega)] at h2
            obtain ⟨q1, q2, q3, q4⟩ := hq (s - 1) (by omega) (by omega)
            have e : mid a b + m - 1 - (s - 1) = mid a b + m - s := by omega
            rw [e] at h2 q3 q4
            exact hS.ntrans _ _ _ (sorted_le hS S2 q3 hj hj2) (hS.ntrans _ _ _ h2 (sorted_le hS S1 hi (by omega) q2))
        have K2 : ∀ i j, s ≤ i → i < m → m ≤ j → j < mid a b + m - s → L d[i]! d[j]! = false := by
          intro i j hi hi2 hj hj2
          by_cases h : s = en0 a m b
          · rcases hs1 h with e | e <;> omega
          · have h2 := r4 s (Nat.le_refl _) (by omega)
            simp only [Bool.not_eq_false'] at h2
            rw [hp s (by omega) (by omega)] at h2
            obtain ⟨q1, q2, q3, q4⟩ := hq s (by omega) (by omega)
            exact hS.ntrans _ _ _ (sorted_le hS S1 q1 hi hi2) (hS.ntrans _ _ _ (asym hS h2) (sorted_le hS S2 hj (by omega) q4))
        clear hs0 hs1 r1 r2 r3 r4 hq hp hle
        generalize he : mid a b + m - s = e at *
        generalize hmd : mid a b = mi at *
        -- the rotation
        have G : ∀ q, (rot m s e d)[q]! = if s ≤ q ∧ q < mi then d[q + (m - s)]! else if mi ≤ q ∧ q < e then d[q - (e - m)]! else d[q]! := by
          intro q
          unfold rot
          by_cases hc : s < m ∧ m < e
          · rw [if_pos hc, rotLoop_get m _ (m - s) (e - m) d (by omega) (by omega) (by omega) (by omega) (by omega) q]
            have e1 : m - (m - s) = s := by omega
            have e2 : s + (e - m) = mi := by omega
            have e3 : m + (e - m) = e := by omega
            rw [e1, e2, e3]
          · rw [if_neg hc]
            by_cases h1 : s ≤ q ∧ q < mi
            · rw [if_pos h1]; congr 1; omega
            · rw [if_neg h1]
              by_cases h2 : mi ≤ q ∧ q < e
              · rw [if_pos h2]; congr 1; omega
              · rw [if_neg h2]
        have P1 : PermIn a b d (rot m s e d) := by
          unfold rot
          by_cases hc : s < m ∧ m < e
          · rw [if_pos hc]; exact rotLoop_perm m a b _ _ _ d (by omega) (by omega) (by omega) (by omega) (by omega) hb
          · rw [if_neg hc]; exact permIn_refl _ _ _
        have Z1 : (rot m s e d).size = d.size := rot_size m s e d
        generalize rot m s e d = d1 at G P1 Z1
        have GA1 : ∀ q, q < s → d1[q]! = d[q]! := fun q h => by rw [G, if_neg (by omega), if_neg (by omega)]
        have GB1 : ∀ q, s ≤ q → q < mi → d1[q]! = d[q + (m - s)]! := fun q h h2 => by rw [G, if_pos ⟨h, h2⟩]
        have GA2 : ∀ q, mi ≤ q → q < e → d1[q]! = d[q - (e - m)]! := fun q h h2 => by rw [G, if_neg (by omega), if_pos ⟨h, h2⟩]
        have GB2 : ∀ q, e ≤ q → d1[q]! = d[q]! := fun q h => by rw [G, if_neg (by omega), if_neg (by omega)]
        clear G
        -- all of the first half against all of the second
        have C1 : ∀ i j, a ≤ i → i < mi → mi ≤ j → j < b → L d1[j]! d1[i]! = false := by
          intro i j hi hi2 hj hj2
          by_cases hA : i < s
          · rw [GA1 i hA]
            by_cases hB : j < e
            · rw [GA2 j hj hB]; exact sorted_le hS S1 hi (by omega) (by omega)
            · rw [GB2 j (by omega)]; exact K1 i j hi hA (by omega) hj2
          · rw [GB1 i (by omega) hi2]
            by_cases hB : j < e
            · rw [GA2 j hj hB]; exact K2 _ _ (by omega) (by omega) (by omega) (by omega)
            · rw [GB2 j (by omega)]; exact sorted_le hS S2 (by omega) (by omega) hj2
        -- the first half
        obtain ⟨P2, Q2⟩ : PermIn a mi d1 (if a < s ∧ s < mi then symMerge cf k a s mi d1 else d1) ∧ SortedIn L a mi (if a < s ∧ s < mi then symMerge cf k a s mi d1 else d1) := by
          by_cases hc : a < s ∧ s < mi
          · rw [if_pos hc]
            refine ih a s mi d1 (by omega) hc.1 hc.2 (by omega) ?_ ?_ ?_
            · intro x y hx hxy hy; rw [GA1 x (by omega), GA1 y hy]; exact S1 x y hx hxy (by omega)
            · intro x y hx hxy hy; rw [GB1 x hx (by omega), GB1 y (by omega) hy]; exact S2 _ _ (by omega) (by omega) (by omega)
            · intro i j hi hi2 hj hj2; rw [GA1 i hi2, GB1 j hj hj2]; exact X i _ hi (by omega) (by omega) (by omega)
          · rw [if_neg hc]
            refine ⟨permIn_refl _ _ _, ?_⟩
            intro x y hx hxy hy
            by_cases h1 : s ≤ a
            · rw [GB1 x (by omega) (by omega), GB1 y (by omega) hy]; exact S2 _ _ (by omega) (by omega) (by omega)
            · rw [GA1 x (by omega), GA1 y (by omega)]; exact S1 x y hx hxy (by omega)
        have Z2 : (if a < s ∧ s < mi then symMerge cf k a s mi d1 else d1).size = d.size := by rw [P2.1, Z1]
        generalize (if a < s ∧ s < mi then symMerge cf k a s mi d1 else d1) = d2 at P2 Q2 Z2
        have E2 : ∀ q, mi ≤ q → d2[q]! = d1[q]! := fun q h => P2.2.1 q (.inr h)
        have C2 : ∀ i j, a ≤ i → i < mi → mi ≤ j → j < b → L d2[j]! d2[i]! = false := by
          intro i j hi hi2 hj hj2
          rw [E2 j hj]
          exact permIn_all d1 d2 a mi (fun z => L d1[j]! z = false) (by omega) P2 (fun i hi hi2 => C1 i j hi hi2 hj hj2) i hi hi2
        -- the second half
        obtain ⟨P3, Q3⟩ : PermIn mi b d2 (if mi < e ∧ e < b then symMerge cf k mi e b d2 else d2) ∧ SortedIn L mi b (if mi < e ∧ e < b then symMerge cf k mi e b d2 else d2) := by
          by_cases hc : mi < e ∧ e < b
          · rw [if_pos hc]
            refine ih mi e b d2 (by omega) hc.1 hc.2 (by omega) ?_ ?_ ?_
            · intro x y hx hxy hy; rw [E2 x hx, E2 y (by omega), GA2 x hx (by omega), GA2 y (by omega) hy]; exact S1 _ _ (by omega) (by omega) (by omega)
            · intro x y hx hxy hy; rw [E2 x (by omega), E2 y (by omega), GB2 x hx, GB2 y (by omega)]; exact S2 x y (by omega) hxy hy
            · intro i j hi hi2 hj hj2; rw [E2 i hi, E2 j (by omega), GA2 i hi hi2, GB2 j hj]; exact X _ j (by omega) (by omega) (by omega) hj2
          · rw [if_neg hc]
            refine ⟨permIn_refl _ _ _, ?_⟩
            intro x y hx hxy hy
            rw [E2 x hx, E2 y (by omega)]
            by_cases h1 : e ≤ mi
            · rw [GB2 x (by omega), GB2 y (by omega)]; exact S2 x y (by omega) hxy hy
            · rw [GA2 x hx (by omega), GA2 y (by omega) (by omega)]; exact S1 _ _ (by omega) (by omega) (by omega)
        have Z3 : (if mi < e ∧ e < b then symMerge cf k mi e b d2 else d2).size = d.size := by rw [P3.1, Z2]
        generalize (if mi < e ∧ e < b then symMerge cf k mi e b d2 else d2) = d3 at P3 Q3 Z3
        refine ⟨permIn_trans _ _ _ _ _ P1 (permIn_trans _ _ _ _ _ (permIn_mono _ _ a mi a b (Nat.le_refl _) (by omega) (by omega) P2) (permIn_mono _ _ mi b a b (by omega) (Nat.le_refl _) (by omega) P3)), ?_⟩
        intro x y hx hxy hy
        have E3 : ∀ q, q < mi → d3[q]! = d2[q]! := fun q h => P3.2.1 q (.inl h)
        by_cases h1 : y < mi
        · rw [E3 x (by omega), E3 y h1]; exact Q2 x y hx hxy h1
        · by_cases h2 : x < mi
          · rw [E3 x h2]
            exact permIn_all d2 d3 mi b (fun z => L z d2[x]! = false) (by omega) P3 (fun j hj hj2 => C2 x j hx h2 hj hj2) y (by omega) hy
          · exact Q3 x y (by omega) hxy hy
end Go.Proofs.Stab
