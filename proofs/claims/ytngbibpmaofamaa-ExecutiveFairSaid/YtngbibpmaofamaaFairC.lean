/- ExecutiveFair, the plain law, part 3: what share gives: the cut's parts, rounded down, and one more for the greatest remainders. -/
import Derived.Test.YtngbibpmaofamaaFairB
namespace Go.Proofs.Fair
open Go.RowKit Go.Proofs.Ytngbibpmaofamaa.QTest Go.Proofs.YtngbibpmaofamaaW.PrintWords Go.Proofs.YtngbibpmaofamaaW.PrintMore

theorem perm_sum {l l' : List Int} (h : l.Perm l') (f : Int → Int) : (l.map f).sum = (l'.map f).sum := by
  induction h with
  | nil => rfl
  | cons x _ ih => simp [ih]
  | swap x y l =>
    simp only [List.map_cons, List.sum_cons]
    omega
  | trans _ _ h1 h2 => exact h1.trans h2
theorem sum_le {f : Int → Int} {B : Int} : ∀ l : List Int, (∀ x ∈ l, f x ≤ B) → (l.map f).sum ≤ l.length * B
  | [], _ => by simp
  | x :: l, h => by
    have ih := sum_le l (fun y hy => h y (by simp [hy]))
    have hx := h x (by simp)
    rw [List.map_cons, List.sum_cons, List.length_cons, show ((l.length + 1 : Nat) : Int) = (l.length : Int) + 1 by omega, Int.add_mul]
    omega
theorem sum_ge0 {f : Int → Int} : ∀ l : List Int, (∀ x ∈ l, 0 ≤ f x) → 0 ≤ (l.map f).sum
  | [], _ => by simp
  | x :: l, h => by
    have ih := sum_ge0 l (fun y hy => h y (by simp [hy]))
    have hx := h x (by simp)
    rw [List.map_cons, List.sum_cons]
    omega
theorem sum_lin {f g e : Int → Int} {s : Int} : ∀ l : List Int, (∀ x ∈ l, f x = s * g x + e x) → (l.map f).sum = s * (l.map g).sum + (l.map e).sum
  | [], _ => by simp
  | x :: l, h => by
    have ih := sum_lin l (fun y hy => h y (by simp [hy]))
    have hx := h x (by simp)
    rw [List.map_cons, List.sum_cons, List.map_cons, List.sum_cons, List.map_cons, List.sum_cons, ih, hx, Int.mul_add]
    omega
theorem sum_mulc {f : Int → Int} {c : Int} : ∀ l : List Int, (l.map fun x => c * f x).sum = c * (l.map f).sum
  | [] => by simp
  | x :: l => by
    rw [List.map_cons, List.sum_cons, List.map_cons, List.sum_cons, sum_mulc l, Int.mul_add]
theorem sum_mem (T : List Int) : ∀ l : List Int, (∀ x ∈ l, x ∈ T) → (l.map fun x => if x ∈ T then (1 : Int) else 0).sum = l.length
  | [], _ => by simp
  | x :: l, h => by
    have ih := sum_mem T l (fun y hy => h y (by simp [hy]))
    rw [List.map_cons, List.sum_cons, ih, if_pos (h x (by simp)), List.length_cons]
    omega
theorem sum_out (T : List Int) : ∀ l : List Int, (∀ x ∈ l, ¬ x ∈ T) → (l.map fun x => if x ∈ T then (1 : Int) else 0).sum = 0
  | [], _ => by simp
  | x :: l, h => by
    have ih := sum_out T l (fun y hy => h y (by simp [hy]))
    rw [List.map_cons, List.sum_cons, ih, if_neg (h x (by simp))]
    omega
theorem sum_addf {f g : Int → Int} : ∀ l : List Int, (l.map fun x => f x + g x).sum = (l.map f).sum + (l.map g).sum
  | [] => by simp
  | x :: l => by
    rw [List.map_cons, List.sum_cons, List.map_cons, List.sum_cons, List.map_cons, List.sum_cons, sum_addf l]
    omega
theorem sum_congr {f g : Int → Int} {l : List Int} (h : ∀ x ∈ l, f x = g x) : (l.map f).sum = (l.map g).sum := by rw [List.map_congr_left h]

/-- The sum of what lies at the head of a list that descends, where the sum of all is s times as much as the head is long and each is less than s: nothing there is 0. -/
theorem head_pos {f : Int → Int} {s : Int} (hs : 0 < s) (D : List Int) (n : Nat) (hf : ∀ x ∈ D, 0 ≤ f x ∧ f x < s) (hd : D.Pairwise fun x y => f y ≤ f x) (hsum : (D.map f).sum = s * n) : ∀ x ∈ D.take n, 0 < f x := by
  intro x hx
  refine Int.not_le.1 fun h0 => ?_
  obtain ⟨A, B, e⟩ := List.append_of_mem hx
  have eD : D = A ++ x :: (B ++ D.drop n) := by
    conv => lhs; rw [← List.take_append_drop n D, e]
    simp
  have hn : n ≤ D.length ∨ D.length < n := by omega
  have hA : A.length + 1 ≤ n := by
    have h1 : (D.take n).length ≤ n := by rw [List.length_take]; exact Nat.min_le_left _ _
    rw [e, List.length_append, List.length_cons] at h1
    omega
  have hp := hd
  rw [eD] at hp
  have hp2 := (List.pairwise_append.1 hp).2.1
  have hp3 := (List.pairwise_cons.1 hp2).1
  have s1 : (A.map f).sum ≤ A.length * (s - 1) := sum_le A fun y hy => by
    have := (hf y (by rw [eD]; simp [hy])).2
    omega
  have s2 : ((x :: (B ++ D.drop n)).map f).sum ≤ ((x :: (B ++ D.drop n)).length : Nat) * (0 : Int) := sum_le _ fun y hy => by
    rcases List.mem_cons.1 hy with rfl | hy2
    · exact h0
    · exact Int.le_trans (hp3 y hy2) h0
  have s3 : (D.map f).sum = (A.map f).sum + ((x :: (B ++ D.drop n)).map f).sum := by
    conv => lhs; rw [eD]
    rw [List.map_append, List.sum_append]
  rw [Int.mul_zero] at s2
  have s4 : (A.length : Int) * (s - 1) ≤ ((n : Int) - 1) * (s - 1) := Int.mul_le_mul_of_nonneg_right (by omega) (by omega)
  have s5 : ((n : Int) - 1) * (s - 1) = s * n - n - s + 1 := by
    rw [Int.sub_mul, Int.mul_sub, Int.mul_comm s n]
    omega
  rw [hsum] at s3
  generalize (A.length : Int) * (s - 1) = p at *
  generalize ((n : Int) - 1) * (s - 1) = q at *
  generalize s * (n : Int) = z at *
  omega
end Go.Proofs.Fair
