/- ExecutiveFair, the plain law, part 2: what share's three loops compute. -/
import Derived.Test.YtngbibpmaofamaaFairA
namespace Go.Proofs.Fair
open Go.RowKit Go.Proofs.Ytngbibpmaofamaa.QTest Go.Proofs.YtngbibpmaofamaaW.PrintWords Go.Proofs.YtngbibpmaofamaaW.PrintMore

def am (L : List S25) (i : Int) : Int := (rd_T25 L i).f0
def me (L : List S25) (i : Int) : Int := (rd_T25 L i).f1
abbrev inG (L : List S25) (m : Int) (i : Int) : Prop := me L i = m ∧ am L i > 0
def grp (L : List S25) (m : Int) : Nat → List Int
  | 0 => []
  | i + 1 => if inG L m i then grp L m i ++ [(i : Int)] else grp L m i
def ssum (L : List S25) (m : Int) (n : Nat) : Int := sm n fun i => if inG L m i then am L i else 0

theorem mem_grp {L : List S25} {m x : Int} : ∀ {n : Nat}, x ∈ grp L m n ↔ 0 ≤ x ∧ x < n ∧ inG L m x
  | 0 => by
    constructor
    · intro h
      cases h
    · rintro ⟨h1, h2, _⟩
      omega
  | n + 1 => by
    have ih := @mem_grp L m x n
    unfold grp
    split
    · next h =>
      rw [List.mem_append, ih, List.mem_singleton]
      constructor
      · rintro (⟨h1, h2, h3⟩ | rfl)
        · exact ⟨h1, by omega, h3⟩
        · exact ⟨by omega, by omega, h⟩
      · rintro ⟨h1, h2, h3⟩
        by_cases e : x = (n : Int)
        · exact .inr e
        · exact .inl ⟨h1, by omega, h3⟩
    · next h =>
      rw [ih]
      constructor
      · rintro ⟨h1, h2, h3⟩
        exact ⟨h1, by omega, h3⟩
      · rintro ⟨h1, h2, h3⟩
        by_cases e : x = (n : Int)
        · rw [e] at h3
          exact absurd h3 h
        · exact ⟨h1, by omega, h3⟩
theorem grp_asc (L : List S25) (m : Int) : ∀ n, (grp L m n).Pairwise (· < ·)
  | 0 => List.Pairwise.nil
  | n + 1 => by
    unfold grp
    split
    · refine List.pairwise_append.2 ⟨grp_asc L m n, List.pairwise_singleton _ _, fun x hx y hy => ?_⟩
      rw [List.mem_singleton.1 hy]
      exact (mem_grp.1 hx).2.1
    · exact grp_asc L m n
theorem grp_len (L : List S25) (m : Int) : ∀ n, (grp L m n).length ≤ n
  | 0 => Nat.le_refl _
  | n + 1 => by
    have := grp_len L m n
    unfold grp
    split
    · rw [List.length_append, List.length_singleton]
      omega
    · omega
theorem grp_sum (L : List S25) (m : Int) (g : Int → Int) : ∀ n, ((grp L m n).map g).sum = sm n fun i => if inG L m i then g i else 0
  | 0 => rfl
  | n + 1 => by
    have e3 : grp L m (n + 1) = if inG L m n then grp L m n ++ [(n : Int)] else grp L m n := rfl
    have e2 : sm (n + 1) (fun i => if inG L m i then g i else 0) = sm n (fun i => if inG L m i then g i else 0) + if inG L m n then g n else 0 := rfl
    rw [e2, e3, ← grp_sum L m g n]
    by_cases h : inG L m n
    · rw [if_pos h, if_pos h, List.map_append, List.sum_append]
      simp
    · rw [if_neg h, if_neg h, Int.add_zero]
theorem nodup_of_asc {l : List Int} (h : l.Pairwise (· < ·)) : l.Nodup := h.imp fun h2 => by omega

/-- What the loads are: not many, not large. -/
structure Small (L : List S25) : Prop where
  len : L.length ≤ 32
  amt : ∀ i : Nat, i < L.length → 0 ≤ am L i ∧ am L i ≤ 30

theorem ssum_bound {L : List S25} (h : Small L) (m : Int) (i : Nat) (hi : i ≤ L.length) : 0 ≤ ssum L m i ∧ ssum L m i ≤ 960 := by
  have h1 : 0 ≤ ssum L m i := sm_nonneg i fun j hj => by
    split
    · have := h.amt j (by omega)
      omega
    · omega
  have h2 : ssum L m i ≤ i * 30 := sm_bound i fun j hj => by
    have := h.amt j (by omega)
    split <;> omega
  have := h.len
  omega

theorem share_l0 {L : List S25} (hs : Small L) (m need : Int) (cuts : List Int) (r : Int × List Int)
    (hEnd : Ev (fun k => if mn need (ssum L m L.length) = 0 then some (0, cuts) else executive_share.l1 k cuts (grp L m L.length) (mn need (ssum L m L.length)) (grp L m L.length) ((grp L m L.length).length : Int) 0 L (ssum L m L.length) (mn need (ssum L m L.length))) r) :
    ∀ n i : Nat, i + n = L.length → Ev (fun k => executive_share.l0 k m need cuts (grp L m i) L (L.length : Int) i L (ssum L m i)) r
  | 0, i, hi => by
    have : i = L.length := by omega
    subst this
    exact Ev.succ (fun k => by rw [executive_share.l0, if_neg (by omega)]) hEnd
  | n + 1, i, hi => by
    have ih := share_l0 hs m need cuts r hEnd n (i + 1) (by omega)
    have hl := hs.len
    have ha := hs.amt i (by omega)
    have hb := ssum_bound hs m i (by omega)
    have hg := grp_len L m i
    have e1 : wrap64 ((i : Int) + 1) = ((i + 1 : Nat) : Int) := by rw [w64 (by omega) (by omega)]; omega
    have e2 : ssum L m (i + 1) = ssum L m i + if inG L m i then am L i else 0 := rfl
    have e3 : grp L m (i + 1) = if inG L m i then grp L m i ++ [(i : Int)] else grp L m i := rfl
    have e4 : (rd_T25 L i).f0 = am L i := rfl
    have e5 : (rd_T25 L i).f1 = me L i := rfl
    refine Ev.succ (fun k => ?_) ih
    rw [executive_share.l0, if_pos (by omega), if_pos (by omega), if_pos (by omega), e1, e2, e3, e4, e5]
    by_cases h1 : me L i = m
    · rw [if_pos h1]
      by_cases h2 : am L i > 0
      · rw [if_pos h2, if_pos (by omega), if_pos ⟨h1, h2⟩, if_pos ⟨h1, h2⟩, w64 (by omega) (by omega)]
      · rw [if_neg h2, if_neg (fun h => h2 h.2), if_neg (fun h => h2 h.2), Int.add_zero]
    · rw [if_neg h1, if_neg (fun h => h1 h.1), if_neg (fun h => h1 h.1), Int.add_zero]

def qq (L : List S25) (c s : Int) (x : Int) : Int := c * am L x / s
def setq (L : List S25) (c s : Int) (cuts : List Int) (x : Int) : List Int := cuts.set x.toNat (qq L c s x)
def qsum (L : List S25) (c s : Int) (G : List Int) : Int := (G.map (qq L c s)).sum

theorem am_bound {L : List S25} (h : Small L) {x : Int} (h0 : 0 ≤ x) (h1 : x < L.length) : 0 ≤ am L x ∧ am L x ≤ 30 := by
  have := h.amt x.toNat (by omega)
  rwa [show ((x.toNat : Nat) : Int) = x by omega] at this
theorem prod_bound {c a : Int} (h0 : 0 ≤ c) (h1 : c ≤ 960) (h2 : 0 ≤ a) (h3 : a ≤ 30) : 0 ≤ c * a ∧ c * a ≤ 28800 := by
  refine ⟨Int.mul_nonneg h0 h2, ?_⟩
  have h4 : c * a ≤ 960 * a := Int.mul_le_mul_of_nonneg_right h1 h2
  omega
theorem qq_bound {L : List S25} (h : Small L) {c s x : Int} (h0 : 0 ≤ c) (h1 : c ≤ 960) (h2 : 0 < s) (hx0 : 0 ≤ x) (hx1 : x < L.length) :
    0 ≤ qq L c s x ∧ qq L c s x ≤ 28800 ∧ wrap64 (Int.tdiv (wrap64 (c * am L x)) s) = qq L c s x := by
  have ha := am_bound h hx0 hx1
  have hp := prod_bound h0 h1 ha.1 ha.2
  have q0 : 0 ≤ c * am L x / s := Int.ediv_nonneg hp.1 (by omega)
  have q1 : c * am L x / s ≤ c * am L x := Int.ediv_le_self _ hp.1
  refine ⟨q0, by unfold qq; omega, ?_⟩
  rw [w64 (x := c * am L x) (by omega) (by omega), Int.tdiv_eq_ediv_of_nonneg hp.1, w64 (by omega) (by omega)]
  rfl
theorem qsum_bound {L : List S25} (h : Small L) {c s : Int} (h0 : 0 ≤ c) (h1 : c ≤ 960) (h2 : 0 < s) : ∀ G : List Int, (∀ x ∈ G, 0 ≤ x ∧ x < L.length) → 0 ≤ qsum L c s G ∧ qsum L c s G ≤ G.length * 28800
  | [], _ => by simp [qsum]
  | x :: G, hG => by
    have ih := qsum_bound h h0 h1 h2 G (fun y hy => hG y (by simp [hy]))
    have hx := hG x (by simp)
    have hq := qq_bound h h0 h1 h2 hx.1 hx.2
    have e : qsum L c s (x :: G) = qq L c s x + qsum L c s G := by simp [qsum]
    rw [e, List.length_cons]
    omega

theorem ar1 {c a b : Int} {j : Nat} (h0 : 0 ≤ c) (h1 : c ≤ 960) (ha : 0 ≤ a) (ha2 : a ≤ (j : Int) * 28800) (hj : j ≤ 32) (hb : 0 ≤ b) (hb2 : b ≤ 28800) : wrap64 (c - a - b) = c - (a + b) := by
  rw [w64 (by omega) (by omega)]
  omega
theorem ar2 {j n : Nat} (h : j < n) (hn : n ≤ 32) : wrap64 ((j : Int) + 1) = ((j + 1 : Nat) : Int) := by
  rw [w64 (by omega) (by omega)]
  omega

theorem share_l1 {L : List S25} (hs : Small L) {c s : Int} (h0 : 0 ≤ c) (h1 : c ≤ 960) (h2 : 0 < s) (G : List Int) (hl : G.length ≤ 32) (cuts : List Int) (hc : cuts.length = L.length) (hG : ∀ x ∈ G, 0 ≤ x ∧ x < L.length) (r : Int × List Int)
    (hEnd : Ev (fun k => (slices_SortStableFunc_share.f G c L s).bind fun t113 => (if 0 ≤ c - qsum L c s G then (if c - qsum L c s G ≤ (G.length : Int) then ((some (t113.take (c - qsum L c s G : Int).toNat : List Int)).bind fun y114 => (executive_share.l2 k (G.foldl (setq L c s) cuts) y114 (y114.length : Int) 0 c)) else (none)) else (none))) r) :
    ∀ n j : Nat, j + n = G.length → Ev (fun k => executive_share.l1 k ((G.take j).foldl (setq L c s) cuts) G (c - qsum L c s (G.take j)) G (G.length : Int) j L s c) r
  | 0, j, hj => by
    have e : G.take j = G := List.take_of_length_le (by omega)
    rw [e]
    exact Ev.succ (fun k => by rw [executive_share.l1, if_neg (by omega)]) hEnd
  | n + 1, j, hj => by
    have ih := share_l1 hs h0 h1 h2 G hl cuts hc hG r hEnd n (j + 1) (by omega)
    have hjl : j < G.length := by omega
    have hx := hG G[j] (List.getElem_mem hjl)
    have hq := qq_bound hs h0 h1 h2 hx.1 hx.2
    have hb := qsum_bound hs h0 h1 h2 (G.take j) (fun y hy => hG y (List.mem_of_mem_take hy))
    have hlt : (G.take j).length = j := by rw [List.length_take]; exact Nat.min_eq_left (Nat.le_of_lt hjl)
    have hb2 := hb.2
    rw [hlt] at hb2
    have e1 : wrap64 ((j : Int) + 1) = ((j + 1 : Nat) : Int) := ar2 hjl hl
    have er : rd G (j : Int) = G[j] := by
      unfold rd
      rw [List.getD_eq_getElem?_getD, Int.toNat_natCast, List.getElem?_eq_getElem hjl]
      rfl
    have et : G.take (j + 1) = G.take j ++ [G[j]] := by rw [List.take_succ_eq_append_getElem hjl]
    have ef : ∀ z : List Int, z.length = cuts.length → ∀ T : List Int, (T.foldl (setq L c s) z).length = cuts.length := fun z hz T => by
      induction T generalizing z with
      | nil => exact hz
      | cons y T ihT =>
        rw [List.foldl_cons]
        exact ihT _ (by unfold setq; rw [List.length_set]; exact hz)
    have e2 : qsum L c s (G.take (j + 1)) = qsum L c s (G.take j) + qq L c s G[j] := by
      rw [et]
      unfold qsum
      rw [List.map_append, List.sum_append]
      simp
    have e3 : (G.take (j + 1)).foldl (setq L c s) cuts = setq L c s ((G.take j).foldl (setq L c s) cuts) G[j] := by
      rw [et, List.foldl_append]
      rfl
    have hcl := ef cuts rfl (G.take j)
    refine Ev.succ (fun k => ?_) ih
    have e4 : (rd_T25 L G[j]).f0 = am L G[j] := rfl
    have e5 : wrap64 (c - qsum L c s (G.take j) - qq L c s G[j]) = c - (qsum L c s (G.take j) + qq L c s G[j]) := ar1 h0 h1 hb.1 hb2 (Nat.le_trans (Nat.le_of_lt hjl) hl) hq.1 hq.2.1
    have e6 : setq L c s ((G.take j).foldl (setq L c s) cuts) G[j] = ((G.take j).foldl (setq L c s) cuts).set G[j].toNat (qq L c s G[j]) := rfl
    have c1 : (j : Int) < (G.length : Int) := Int.ofNat_lt.2 hjl
    have c2 : (0 : Int) ≤ (j : Int) := Int.natCast_nonneg j
    have c3 : ¬ s = 0 := Int.ne_of_gt h2
    have c4 : G[j] < (((G.take j).foldl (setq L c s) cuts).length : Int) := by
      rw [hcl, hc]
      exact hx.2
    rw [executive_share.l1, if_pos c1, if_pos c2, if_pos c1, er, if_pos hx.1, if_pos hx.2, if_neg c3, if_pos c4, e1, e2, e3, e4, hq.2.2, e5, e6]

theorem share_l2 (c : Int) (cuts : List Int) (n32 : cuts.length ≤ 32) (T : List Int) (hl : T.length ≤ 32) (hT : ∀ x ∈ T, 0 ≤ x ∧ x < cuts.length) :
    ∀ n j : Nat, j + n = T.length → Ev (fun k => executive_share.l2 k ((T.take j).foldl inc cuts) T (T.length : Int) j c) (c, T.foldl inc cuts)
  | 0, j, hj => by
    have e : T.take j = T := List.take_of_length_le (by omega)
    rw [e]
    exact Ev.succ (fun k => by rw [executive_share.l2, if_neg (by omega)]) Ev.ret
  | n + 1, j, hj => by
    have ih := share_l2 c cuts n32 T hl hT n (j + 1) (by omega)
    have hjl : j < T.length := by omega
    have hx := hT T[j] (List.getElem_mem hjl)
    have e1 : wrap64 ((j : Int) + 1) = ((j + 1 : Nat) : Int) := ar2 hjl hl
    have er : rd T (j : Int) = T[j] := by
      unfold rd
      rw [List.getD_eq_getElem?_getD, Int.toNat_natCast, List.getElem?_eq_getElem hjl]
      rfl
    have et : T.take (j + 1) = T.take j ++ [T[j]] := by rw [List.take_succ_eq_append_getElem hjl]
    have ef : ∀ (U : List Int) (z : List Int), (U.foldl inc z).length = z.length := fun U => by
      induction U with
      | nil => exact fun _ => rfl
      | cons y U ihU =>
        intro z
        rw [List.foldl_cons, ihU]
        unfold inc
        rw [List.length_set]
    have e3 : (T.take (j + 1)).foldl inc cuts = inc ((T.take j).foldl inc cuts) T[j] := by
      rw [et, List.foldl_append]
      rfl
    have hcl := ef (T.take j) cuts
    refine Ev.succ (fun k => ?_) ih
    have c1 : (j : Int) < (T.length : Int) := Int.ofNat_lt.2 hjl
    have c2 : (0 : Int) ≤ (j : Int) := Int.natCast_nonneg j
    have c4 : T[j] < (((T.take j).foldl inc cuts).length : Int) := by
      rw [hcl]
      exact hx.2
    have e6 : inc ((T.take j).foldl inc cuts) T[j] = ((T.take j).foldl inc cuts).set T[j].toNat (wrap64 (rd ((T.take j).foldl inc cuts) T[j] + 1)) := rfl
    rw [executive_share.l2, if_pos c1, if_pos c2, if_pos c1, er, if_pos hx.1, if_pos c4, e1, e3, e6]
end Go.Proofs.Fair
