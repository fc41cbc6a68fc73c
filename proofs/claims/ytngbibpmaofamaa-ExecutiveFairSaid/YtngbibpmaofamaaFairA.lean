/- ExecutiveFair, the plain law, part 1: rounds without end, sums over places, rows that are written place by place. -/
import Derived.Test.YtngbibpmaofamaaQTestx7
namespace Go.Proofs.Fair
open Go.RowKit Go.Proofs.Ytngbibpmaofamaa.QTest Go.Proofs.YtngbibpmaofamaaW.PrintWords Go.Proofs.YtngbibpmaofamaaW.PrintMore

/-- From some number of rounds on the answer is r. -/
def Ev {α : Type} (f : Nat → Option α) (r : α) : Prop := ∃ k0, ∀ k, k0 ≤ k → f k = some r
theorem Ev.ret {α : Type} {r : α} : Ev (fun _ => some r) r := ⟨0, fun _ _ => rfl⟩
theorem Ev.of_eq {α : Type} {f : Nat → Option α} {r : α} (h : ∀ k, f k = some r) : Ev f r := ⟨0, fun k _ => h k⟩
theorem Ev.succ {α : Type} {f g : Nat → Option α} {r : α} (e : ∀ k, f (k + 1) = g k) (h : Ev g r) : Ev f r := by
  obtain ⟨k0, h⟩ := h
  refine ⟨k0 + 1, fun k hk => ?_⟩
  obtain ⟨m, rfl⟩ : ∃ m, k = m + 1 := ⟨k - 1, by omega⟩
  rw [e]
  exact h m (by omega)
theorem Ev.congr {α : Type} {f g : Nat → Option α} {r : α} (e : ∀ k, f k = g k) (h : Ev g r) : Ev f r := by
  have : f = g := funext e
  rw [this]
  exact h
theorem Ev.bind {α β : Type} {f : Nat → Option α} {g : Nat → α → Option β} {a : α} {r : β} (h1 : Ev f a) (h2 : Ev (fun k => g k a) r) : Ev (fun k => (f k).bind (g k)) r := by
  obtain ⟨k1, h1⟩ := h1
  obtain ⟨k2, h2⟩ := h2
  refine ⟨max k1 k2, fun k hk => ?_⟩
  show (f k).bind (g k) = some r
  rw [h1 k (by omega)]
  exact h2 k (by omega)
theorem Ev.run {α : Type} {f : Nat → Option α} {r : α} (h : Ev f r) : ∃ k, f k = some r := by
  obtain ⟨k, h⟩ := h
  exact ⟨k, h k (Nat.le_refl _)⟩

theorem w64 {x : Int} (h0 : -9223372036854775808 ≤ x) (h1 : x ≤ 9223372036854775807) : wrap64 x = x := by unfold wrap64; omega

/-- The sum of f over the first n places. -/
def sm : Nat → (Int → Int) → Int
  | 0, _ => 0
  | n + 1, f => sm n f + f n
theorem sm_congr {f g : Int → Int} : ∀ (n : Nat), (∀ i : Nat, i < n → f i = g i) → sm n f = sm n g
  | 0, _ => rfl
  | n + 1, h => by
    show sm n f + f n = sm n g + g n
    rw [sm_congr n (fun i hi => h i (by omega)), h n (by omega)]
theorem sm_add (f g : Int → Int) : ∀ n, sm n (fun i => f i + g i) = sm n f + sm n g
  | 0 => rfl
  | n + 1 => by
    show sm n _ + (f n + g n) = (sm n f + f n) + (sm n g + g n)
    rw [sm_add f g n]
    omega
theorem sm_sub (f g : Int → Int) : ∀ n, sm n (fun i => f i - g i) = sm n f - sm n g
  | 0 => rfl
  | n + 1 => by
    show sm n _ + (f n - g n) = (sm n f + f n) - (sm n g + g n)
    rw [sm_sub f g n]
    omega
theorem sm_mul (c : Int) (f : Int → Int) : ∀ n, sm n (fun i => c * f i) = c * sm n f
  | 0 => by simp [sm]
  | n + 1 => by
    show sm n _ + c * f n = c * (sm n f + f n)
    rw [sm_mul c f n, Int.mul_add]
theorem sm_le {f g : Int → Int} : ∀ (n : Nat), (∀ i : Nat, i < n → f i ≤ g i) → sm n f ≤ sm n g
  | 0, _ => Int.le_refl _
  | n + 1, h => by
    have h1 := sm_le n (fun i hi => h i (by omega))
    have h2 := h n (by omega)
    show sm n f + f n ≤ sm n g + g n
    omega
theorem sm_zero : ∀ n, sm n (fun _ => 0) = 0
  | 0 => rfl
  | n + 1 => by
    show sm n _ + 0 = 0
    rw [sm_zero n]
    rfl
theorem sm_nonneg {f : Int → Int} (n : Nat) (h : ∀ i : Nat, i < n → 0 ≤ f i) : 0 ≤ sm n f := by
  rw [← sm_zero n]
  exact sm_le n h
theorem sm_bound {f : Int → Int} {B : Int} : ∀ (n : Nat), (∀ i : Nat, i < n → f i ≤ B) → sm n f ≤ n * B
  | 0, _ => by simp [sm]
  | n + 1, h => by
    have h1 := sm_bound n (fun i hi => h i (by omega))
    have h2 := h n (by omega)
    show sm n f + f n ≤ ((n + 1 : Nat) : Int) * B
    rw [show ((n + 1 : Nat) : Int) = (n : Int) + 1 by omega, Int.add_mul]
    omega
theorem sm_mono {f : Int → Int} : ∀ (n i : Nat), i ≤ n → (∀ j : Nat, j < n → 0 ≤ f j) → sm i f ≤ sm n f
  | 0, i, hi, _ => by
    have : i = 0 := by omega
    subst this
    exact Int.le_refl _
  | n + 1, i, hi, h => by
    by_cases e : i = n + 1
    · subst e
      exact Int.le_refl _
    · have h1 := sm_mono n i (by omega) (fun j hj => h j (by omega))
      have h2 := h n (by omega)
      show sm i f ≤ sm n f + f n
      omega
/-- Nothing is negative and the sum is nothing: each is nothing. -/
theorem sm_eq_zero {f : Int → Int} : ∀ (n : Nat), (∀ i : Nat, i < n → 0 ≤ f i) → sm n f ≤ 0 → ∀ i : Nat, i < n → f i = 0
  | 0, _, _, i, hi => by omega
  | n + 1, h, hs, i, hi => by
    have h0 := sm_nonneg n (fun j hj => h j (by omega))
    have h1 := h n (by omega)
    have hs' : sm n f + f n ≤ 0 := hs
    by_cases e : i = n
    · subst e
      omega
    · exact sm_eq_zero n (fun j hj => h j (by omega)) (by omega) i (by omega)
/-- The sum over three classes. -/
theorem sm_split3 (c : Int → Int) (f : Int → Int) (n : Nat) (h : ∀ i : Nat, i < n → c i = 0 ∨ c i = 1 ∨ c i = 2) :
    sm n f = sm n (fun i => if c i = 0 then f i else 0) + sm n (fun i => if c i = 1 then f i else 0) + sm n (fun i => if c i = 2 then f i else 0) := by
  rw [← sm_add, ← sm_add]
  refine sm_congr n fun i hi => ?_
  rcases h i hi with e | e | e <;> simp [e]

/-! ### Rows that are written place by place -/
theorem rd_set {c : List Int} {x i v : Int} (hx : 0 ≤ x) (hx2 : x < c.length) (hi : 0 ≤ i) : rd (c.set x.toNat v) i = if i = x then v else rd c i := by
  unfold rd
  rw [List.getD_eq_getElem?_getD, List.getD_eq_getElem?_getD, List.getElem?_set]
  by_cases e : i = x
  · subst e
    rw [if_pos rfl, if_pos (by omega), if_pos rfl]
    rfl
  · rw [if_neg (by omega), if_neg e]

theorem fold_set (q : Int → Int) : ∀ (G : List Int) (c : List Int), (∀ x ∈ G, 0 ≤ x ∧ x < c.length) →
    (G.foldl (fun c x => c.set x.toNat (q x)) c).length = c.length ∧ ∀ i, 0 ≤ i → rd (G.foldl (fun c x => c.set x.toNat (q x)) c) i = if i ∈ G then q i else rd c i
  | [], c, _ => ⟨rfl, fun i _ => by simp⟩
  | x :: G, c, h => by
    have hx := h x (by simp)
    have ih := fold_set q G (c.set x.toNat (q x)) (fun y hy => by rw [List.length_set]; exact h y (by simp [hy]))
    refine ⟨by rw [List.foldl_cons, ih.1, List.length_set], fun i hi => ?_⟩
    rw [List.foldl_cons, ih.2 i hi, rd_set hx.1 hx.2 hi]
    by_cases e : i = x
    · subst e
      simp
    · simp [e]

def inc (c : List Int) (x : Int) : List Int := c.set x.toNat (wrap64 (rd c x + 1))
theorem fold_inc : ∀ (G : List Int) (c : List Int), G.Nodup → (∀ x ∈ G, 0 ≤ x ∧ x < c.length ∧ 0 ≤ rd c x ∧ rd c x ≤ 1000000) →
    (G.foldl inc c).length = c.length ∧ ∀ i, 0 ≤ i → rd (G.foldl inc c) i = rd c i + if i ∈ G then 1 else 0
  | [], c, _, _ => ⟨rfl, fun i _ => by simp⟩
  | x :: G, c, hn, h => by
    have hx := h x (by simp)
    have hn2 := List.nodup_cons.1 hn
    have hl : (inc c x).length = c.length := by unfold inc; rw [List.length_set]
    have hr : ∀ i, 0 ≤ i → rd (inc c x) i = if i = x then rd c x + 1 else rd c i := fun i hi => by
      unfold inc
      rw [rd_set hx.1 hx.2.1 hi, w64 (by omega) (by omega)]
    have ih := fold_inc G (inc c x) hn2.2 (fun y hy => by
      have hy2 := h y (by simp [hy])
      have hne : y ≠ x := fun e => hn2.1 (e ▸ hy)
      rw [hl, hr y hy2.1, if_neg hne]
      exact hy2)
    refine ⟨by rw [List.foldl_cons, ih.1, hl], fun i hi => ?_⟩
    rw [List.foldl_cons, ih.2 i hi, hr i hi]
    by_cases e : i = x
    · subst e
      simp [hn2.1]
    · simp [e]
end Go.Proofs.Fair
