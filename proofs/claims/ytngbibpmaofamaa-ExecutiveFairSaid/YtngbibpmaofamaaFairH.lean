/- ExecutiveFair, the plain law, part 8: the two examples of chapter 43. -/
import Derived.Test.YtngbibpmaofamaaFairG
namespace Go.Proofs.Fair
open Go.RowKit Go.Proofs.Ytngbibpmaofamaa.QTest Go.Proofs.YtngbibpmaofamaaW.PrintWords Go.Proofs.YtngbibpmaofamaaW.PrintMore

theorem Ev.mono {α : Type} {f : Nat → Option α} (hm : ∀ k, LeO (f k) (f (k + 1))) {k0 : Nat} {r : α} (h : f k0 = some r) : Ev f r := by
  refine ⟨k0, fun k hk => ?_⟩
  obtain ⟨d, rfl⟩ : ∃ d, k = k0 + d := ⟨k - k0, by omega⟩
  induction d with
  | zero => exact h
  | succ d ih => exact hm (k0 + d) r (ih (by omega))

theorem share_run {L : List S25} (hs : Small L) {m need c S n : Int} {cuts G D T res : List Int} (hS : ssum L m L.length = S) (hG : grp L m L.length = G) (hc : mn need S = c) (hc0 : 0 < c) (hc1 : c ≤ 960) (hS0 : 0 < S) (hl : cuts.length = L.length) (hGl : G.length ≤ 32) (hGin : ∀ x ∈ G, 0 ≤ x ∧ x < L.length)
    (hsort : slices_SortStableFunc_share.f G c L S = some D) (hn : c - qsum L c S G = n) (h0 : 0 ≤ n) (h1 : n ≤ G.length) (hT : D.take n.toNat = T) (hTl : T.length ≤ 32) (hTin : ∀ x ∈ T, 0 ≤ x ∧ x < L.length) (hres : T.foldl inc (G.foldl (setq L c S) cuts) = res) : Ev (fun k => executive_share.f k L m need cuts) (c, res) := by
  have hcl : (G.foldl (setq L c S) cuts).length = L.length := ((fold_set (qq L c S) G cuts (fun x hx => by rw [hl]; exact hGin x hx)).1).trans hl
  have hlen := hs.len
  refine share_l0 hs m need cuts _ ?_ L.length 0 (by omega)
  rw [hS, hc, hG]
  refine Ev.congr (g := fun k => executive_share.l1 k cuts G c G (G.length : Int) 0 L S c) (fun k => by rw [if_neg (by omega)]) ?_
  have hstart := share_l1 hs (Int.le_of_lt hc0) hc1 hS0 G hGl cuts hl hGin (c, res) ?_ G.length 0 (by omega)
  · have e1 : qsum L c S (G.take 0) = 0 := rfl
    rw [e1, Int.sub_zero] at hstart
    exact hstart
  · refine Ev.congr (g := fun k => executive_share.l2 k (G.foldl (setq L c S) cuts) T (T.length : Int) 0 c) (fun k => ?_) ?_
    · show (slices_SortStableFunc_share.f G c L S).bind _ = _
      rw [hsort]
      show (if 0 ≤ c - qsum L c S G then (if c - qsum L c S G ≤ (G.length : Int) then executive_share.l2 k (G.foldl (setq L c S) cuts) (D.take (c - qsum L c S G).toNat) ((D.take (c - qsum L c S G).toNat).length : Int) 0 c else none) else none) = _
      rw [hn, if_pos h0, if_pos h1, hT]
    · rw [← hres]
      exact share_l2 c (G.foldl (setq L c S) cuts) (by rw [hcl]; exact hlen) T hTl (fun x hx => by rw [hcl]; exact hTin x hx) T.length 0 (by omega)

def ex : List S25 := [⟨10, 1⟩, ⟨20, 2⟩, ⟨10, 2⟩]
theorem ex_small : Small ex := ⟨by decide, by
  intro i hi
  have h3 : i < 3 := hi
  have : i = 0 ∨ i = 1 ∨ i = 2 := by omega
  rcases this with rfl | rfl | rfl <;> decide +kernel⟩
theorem ex_merits : merits ex = [1, 2] := by
  unfold merits
  have e : (mts ex ex.length).mergeSort (fun x y => decide (x ≤ y)) = [1, 2, 2] := by
    have e0 : mts ex ex.length = [1, 2, 2] := by decide +kernel
    rw [e0]
    exact List.mergeSort_of_pairwise (by decide)
  rw [e]
  decide +kernel
theorem e3 : slices_SortStableFunc_share.f [0] 10 ex 10 = some [0] := by
  unfold slices_SortStableFunc_share.f
  rw [if_pos (by decide)]
  exact congrArg some (List.mergeSort_of_pairwise (by decide))
theorem e4 : slices_SortStableFunc_share.f [1, 2] 9 ex 30 = some [1, 2] := by
  unfold slices_SortStableFunc_share.f
  rw [if_pos (by decide)]
  exact congrArg some (List.mergeSort_of_pairwise (by decide +kernel))
theorem e5 : slices_SortStableFunc_share.f [1, 2] 10 ex 30 = some [1, 2] := by
  unfold slices_SortStableFunc_share.f
  rw [if_pos (by decide)]
  exact congrArg some (List.mergeSort_of_pairwise (by decide +kernel))

theorem s1 (need : Int) (h : mn need 10 = 10) : Ev (fun k => executive_share.f k ex 1 need [0, 0, 0]) (10, [10, 0, 0]) :=
  share_run ex_small (S := 10) (G := [0]) (D := [0]) (n := 0) (T := []) (by decide +kernel) (by decide +kernel) h (by decide) (by decide) (by decide) (by decide) (by decide) (by decide) e3 (by decide +kernel) (by decide) (by decide) (by decide) (by decide) (by decide) (by decide +kernel)
theorem s2 : Ev (fun k => executive_share.f k ex 2 9 [10, 0, 0]) (9, [10, 6, 3]) :=
  share_run ex_small (S := 30) (G := [1, 2]) (D := [1, 2]) (n := 0) (T := []) (by decide +kernel) (by decide +kernel) (by decide) (by decide) (by decide) (by decide) (by decide) (by decide) (by decide) e4 (by decide +kernel) (by decide) (by decide) (by decide) (by decide) (by decide) (by decide +kernel)
theorem s3 : Ev (fun k => executive_share.f k ex 2 10 [10, 0, 0]) (10, [10, 7, 3]) :=
  share_run ex_small (S := 30) (G := [1, 2]) (D := [1, 2]) (n := 1) (T := [1]) (by decide +kernel) (by decide +kernel) (by decide) (by decide) (by decide) (by decide) (by decide) (by decide) (by decide) e5 (by decide +kernel) (by decide) (by decide) (by decide) (by decide) (by decide) (by decide +kernel)

theorem ex_l2 {a b c d : Int} {x y : List Int} (h1 : Ev (fun k => executive_share.f k ex 1 a [0, 0, 0]) (b, x)) (hb : wrap64 (a - b) = c) (h2 : Ev (fun k => executive_share.f k ex 2 c x) (d, y)) : Ev (fun k => executive_Curtail.l2 k ex a [0, 0, 0] [1, 2] 2 0) (y, 0) := by
  refine Ev.succ (g := fun k => (executive_share.f k ex 1 a [0, 0, 0]).bind fun bt135 => executive_Curtail.l2 k ex (wrap64 (a - bt135.1)) bt135.2 [1, 2] 2 1) (fun k => by rw [executive_Curtail.l2, if_pos (by decide), if_pos (by decide), if_pos (by decide), show rd [1, 2] 0 = 1 by decide +kernel, show wrap64 (0 + 1) = 1 by decide +kernel]) ?_
  refine Ev.bind (g := fun k bt135 => executive_Curtail.l2 k ex (wrap64 (a - bt135.1)) bt135.2 [1, 2] 2 1) h1 ?_
  refine Ev.congr (g := fun k => executive_Curtail.l2 k ex c x [1, 2] 2 1) (fun k => by rw [← hb]) ?_
  refine Ev.succ (g := fun k => (executive_share.f k ex 2 c x).bind fun bt135 => executive_Curtail.l2 k ex (wrap64 (c - bt135.1)) bt135.2 [1, 2] 2 2) (fun k => by rw [executive_Curtail.l2, if_pos (by decide), if_pos (by decide), if_pos (by decide), show rd [1, 2] 1 = 2 by decide +kernel, show wrap64 (1 + 1) = 2 by decide +kernel]) ?_
  refine Ev.bind (g := fun k bt135 => executive_Curtail.l2 k ex (wrap64 (c - bt135.1)) bt135.2 [1, 2] 2 2) h2 ?_
  exact Ev.succ (g := fun _ => some (y, 0)) (fun k => by rw [executive_Curtail.l2, if_neg (by decide)]) Ev.ret

theorem ex_cur {need : Int} {y : List Int} (hn0 : 0 ≤ need) (hn1 : need ≤ 40) (h : Ev (fun k => executive_Curtail.l2 k ex need [0, 0, 0] [1, 2] 2 0) (y, 0)) : Ev (fun k => executive_Curtail.f k ex need) (y, 0) := by
  have e0 : sm ex.length (am ex) = 40 := by decide +kernel
  have hj : Ev (fun k => executive_Curtail.j1 k ex need (decide (need > sm ex.length (am ex)))) (y, 0) := by
    have c1 : ¬ need > sm ex.length (am ex) := by rw [e0]; omega
    have hl1 := cur_l1 ex_small need [0, 0, 0] (y, 0) (by rw [ex_merits]; exact h) ex.length 0 (by omega)
    refine Ev.succ (fun k => ?_) hl1
    rw [decide_eq_false c1, executive_Curtail.j1, if_neg (by decide), if_pos (by decide), if_pos (by decide)]
    rfl
  have hl0 := cur_l0 ex_small need hn0 _ hj ex.length 0 (by omega)
  refine Ev.congr (fun k => ?_) hl0
  show executive_Curtail.f k ex need = _
  unfold executive_Curtail.f
  rw [if_neg (by decide)]
  rfl

theorem awake_ev : Ev (fun k => gridmarketlaw43_awake.f k) true := by
  have h1 : Ev (fun k => executive_Curtail.f k ex 19) ([10, 6, 3], 0) := ex_cur (by decide) (by decide) (ex_l2 (s1 19 (by decide)) (by decide +kernel) s2)
  have h2 : Ev (fun k => executive_Curtail.f k ex 20) ([10, 7, 3], 0) := ex_cur (by decide) (by decide) (ex_l2 (s1 20 (by decide)) (by decide +kernel) s3)
  have h3 : Ev (fun k => gridmarketref18_Ints.f k [10, 6, 3] [10, 6, 3]) true := Ev.mono (k0 := 9) (fun k => gridmarketref18_Ints.mono _ _ k) (by decide +kernel)
  have h4 : Ev (fun k => gridmarketref18_Ints.f k [10, 7, 3] [10, 7, 3]) true := Ev.mono (k0 := 9) (fun k => gridmarketref18_Ints.mono _ _ k) (by decide +kernel)
  obtain ⟨k1, h1⟩ := h1
  obtain ⟨k2, h2⟩ := h2
  obtain ⟨k3, h3⟩ := h3
  obtain ⟨k4, h4⟩ := h4
  refine ⟨k1 + k2 + k3 + k4, fun k hk => ?_⟩
  have a1 : executive_Curtail.f k ex 19 = some ([10, 6, 3], 0) := h1 k (by omega)
  have a2 : executive_Curtail.f k ex 20 = some ([10, 7, 3], 0) := h2 k (by omega)
  have a3 : gridmarketref18_Ints.f k [10, 6, 3] [10, 6, 3] = some true := h3 k (by omega)
  have a4 : gridmarketref18_Ints.f k [10, 7, 3] [10, 7, 3] = some true := h4 k (by omega)
  show gridmarketlaw43_awake.f k = some true
  unfold gridmarketlaw43_awake.f
  show ((executive_Curtail.f k ex 19).bind _) = _
  rw [a1, Option.bind_some]
  show ((executive_Curtail.f k ex 20).bind _) = _
  rw [a2, Option.bind_some, if_pos rfl, if_pos rfl, a3, Option.bind_some, if_pos rfl, a4]
  rfl
end Go.Proofs.Fair
