/- ExecutiveFair, the plain law, part 7: Curtail's answer. -/
import Derived.Test.YtngbibpmaofamaaFairF
namespace Go.Proofs.Fair
open Go.RowKit Go.Proofs.Ytngbibpmaofamaa.QTest Go.Proofs.YtngbibpmaofamaaW.PrintWords Go.Proofs.YtngbibpmaofamaaW.PrintMore

theorem rd_nat {l : List Int} {j : Nat} (h : j < l.length) : rd l (j : Int) = l[j] := by
  unfold rd
  rw [List.getD_eq_getElem?_getD, Int.toNat_natCast, List.getElem?_eq_getElem h]
  rfl
theorem rest_w {a c : Int} (h0 : 0 ≤ a) (h1 : a ≤ 960) (h2 : 0 ≤ c) (h3 : c ≤ a) : wrap64 (a - c) = a - c := w64 (by omega) (by omega)

theorem cur_l2 {L : List S25} (hs : Small L) {need : Int} (hneed : need ≤ 960) {M : List Int} (hM : M.Pairwise (· < ·)) (hl : M.length ≤ 32) :
    ∀ n j : Nat, j + n = M.length → ∀ cuts rest, Inv L need (M.take j) cuts rest → ∃ cuts' rest', Ev (fun k => executive_Curtail.l2 k L rest cuts M (M.length : Int) j) (cuts', 0) ∧ Inv L need M cuts' rest'
  | 0, j, hj, cuts, rest, h => by
    have e : M.take j = M := List.take_of_length_le (by omega)
    rw [e] at h
    refine ⟨cuts, rest, ?_, h⟩
    have c1 : ¬ (j : Int) < (M.length : Int) := by omega
    exact Ev.succ (g := fun _ => some (cuts, 0)) (fun k => by rw [executive_Curtail.l2, if_neg c1]) Ev.ret
  | n + 1, j, hj, cuts, rest, h => by
    have hjl : j < M.length := by omega
    have et : M.take (j + 1) = M.take j ++ [M[j]] := by rw [List.take_succ_eq_append_getElem hjl]
    have hlt : ∀ x ∈ M.take j, x < M[j] := fun x hx => by
      obtain ⟨i, hi, e⟩ := List.getElem_of_mem hx
      have hi2 : i < j := by
        rw [List.length_take] at hi
        omega
      rw [List.getElem_take] at e
      rw [← e]
      exact List.pairwise_iff_getElem.1 hM i j (by omega) hjl hi2
    obtain ⟨cuts', he, hp⟩ := share_ev hs (m := M[j]) h.rest0 h.len (fun i hi hg => h.zero i hi (fun hx => by
      have := hlt _ hx
      rw [hg.1] at this
      omega))
    have hst := h.step hs hlt hp
    rw [← et] at hst
    obtain ⟨cuts2, rest2, h1, h2⟩ := cur_l2 hs hneed hM hl n (j + 1) (by omega) cuts' _ hst
    refine ⟨cuts2, rest2, ?_, h2⟩
    have hb := mn_bound h.rest0 (ssum_bound hs M[j] L.length (Nat.le_refl _)).1
    have hr : rest ≤ 960 := by
      have h3 := h.restE
      have h4 : 0 ≤ sm L.length (fun i => rd cuts i) := sm_nonneg _ fun i hi => (h.low i hi).1
      omega
    have e1 : wrap64 ((j : Int) + 1) = ((j + 1 : Nat) : Int) := ar2 hjl hl
    have e2 := rest_w h.rest0 hr hb.1 hb.2.1
    have c1 : (j : Int) < (M.length : Int) := Int.ofNat_lt.2 hjl
    have c2 : (0 : Int) ≤ (j : Int) := Int.natCast_nonneg j
    refine Ev.succ (g := fun k => (executive_share.f k L M[j] rest cuts).bind fun bt135 => executive_Curtail.l2 k L (wrap64 (rest - bt135.1)) bt135.2 M (M.length : Int) ((j + 1 : Nat) : Int)) (fun k => by rw [executive_Curtail.l2, if_pos c1, if_pos c2, if_pos c1, rd_nat hjl, e1]) ?_
    refine Ev.bind (g := fun k bt135 => executive_Curtail.l2 k L (wrap64 (rest - bt135.1)) bt135.2 M (M.length : Int) ((j + 1 : Nat) : Int)) he ?_
    refine Ev.congr (fun k => ?_) h1
    show executive_Curtail.l2 k L (wrap64 (rest - mn rest (ssum L M[j] L.length))) cuts' M (M.length : Int) ((j + 1 : Nat) : Int) = _
    rw [e2]

def mts (L : List S25) : Nat → List Int
  | 0 => []
  | i + 1 => mts L i ++ [me L i]
theorem mts_len (L : List S25) : ∀ i, (mts L i).length = i
  | 0 => rfl
  | i + 1 => by
    show (mts L i ++ [me L i]).length = i + 1
    rw [List.length_append, mts_len L i, List.length_singleton]
theorem mem_mts (L : List S25) (x : Int) : ∀ n, x ∈ mts L n ↔ ∃ i : Nat, i < n ∧ me L i = x
  | 0 => by
    constructor
    · intro h
      cases h
    · rintro ⟨i, hi, _⟩
      omega
  | n + 1 => by
    show x ∈ mts L n ++ [me L n] ↔ _
    rw [List.mem_append, mem_mts L x n, List.mem_singleton]
    constructor
    · rintro (⟨i, hi, e⟩ | rfl)
      · exact ⟨i, by omega, e⟩
      · exact ⟨n, by omega, rfl⟩
    · rintro ⟨i, hi, e⟩
      by_cases ei : i = n
      · exact .inr (by rw [← e, ei])
      · exact .inl ⟨i, by omega, e⟩

def merits (L : List S25) : List Int := Lib.compact ((mts L L.length).mergeSort fun x y => decide (x ≤ y))
theorem merits_spec {L : List S25} (hs : Small L) : (merits L).Pairwise (· < ·) ∧ (∀ x, x ∈ merits L ↔ ∃ i : Nat, i < L.length ∧ me L i = x) ∧ (merits L).length ≤ 32 := by
  have p := List.pairwise_mergeSort (le := fun x y : Int => decide (x ≤ y)) (fun a b c h1 h2 => by
    simp only [decide_eq_true_eq] at h1 h2 ⊢
    omega) (fun a b => by
    simp only [Bool.or_eq_true, decide_eq_true_eq]
    omega) (mts L L.length)
  have p2 : ((mts L L.length).mergeSort fun x y => decide (x ≤ y)).Pairwise (· ≤ ·) := p.imp fun h => by simpa using h
  have h := compact_sorted _ p2
  refine ⟨h.1, fun x => (h.2 x).trans (((List.mergeSort_perm _ _).mem_iff).trans (mem_mts L x L.length)), ?_⟩
  have h1 := compact_len ((mts L L.length).mergeSort fun x y => decide (x ≤ y))
  rw [(List.mergeSort_perm _ _).length_eq, mts_len] at h1
  exact Nat.le_trans h1 hs.len

theorem cur_l1 {L : List S25} (hs : Small L) (need : Int) (cuts : List Int) (r : List Int × Int) (hEnd : Ev (fun k => executive_Curtail.l2 k L need cuts (merits L) ((merits L).length : Int) 0) r) :
    ∀ n i : Nat, i + n = L.length → Ev (fun k => executive_Curtail.l1 k L need cuts (mts L i) L (L.length : Int) i) r
  | 0, i, hi => by
    have : i = L.length := by omega
    subst this
    have hl := hs.len
    have c1 : ¬ (L.length : Int) < (L.length : Int) := by omega
    have e1 : slices_Sort_int_int.f (mts L L.length) = some ((mts L L.length).mergeSort fun x y => decide (x ≤ y)) := by
      unfold slices_Sort_int_int.f
      rw [if_pos (by rw [mts_len]; omega)]
    refine Ev.succ (fun k => ?_) hEnd
    rw [executive_Curtail.l1, if_neg c1, e1]
    rfl
  | n + 1, i, hi => by
    have ih := cur_l1 hs need cuts r hEnd n (i + 1) (by omega)
    have hl := hs.len
    have hil : i < L.length := by omega
    have c1 : (i : Int) < (L.length : Int) := Int.ofNat_lt.2 hil
    have c2 : (0 : Int) ≤ (i : Int) := Int.natCast_nonneg i
    have c3 : (mts L i).length < 17592186044416 := by
      rw [mts_len]
      omega
    refine Ev.succ (fun k => ?_) ih
    rw [executive_Curtail.l1, if_pos c1, if_pos c2, if_pos c1, if_pos c3, ar2 hil hl]
    rfl

theorem cur_l0 {L : List S25} (hs : Small L) (need : Int) (hn0 : 0 ≤ need) (r : List Int × Int) (hEnd : Ev (fun k => executive_Curtail.j1 k L need (decide (need > sm L.length (am L)))) r) :
    ∀ n i : Nat, i + n = L.length → Ev (fun k => executive_Curtail.l0 k L need (sm i (am L)) L (L.length : Int) i) r
  | 0, i, hi => by
    have : i = L.length := by omega
    subst this
    have c1 : ¬ (L.length : Int) < (L.length : Int) := by omega
    have c2 : ¬ need < 0 := by omega
    exact Ev.succ (fun k => by rw [executive_Curtail.l0, if_neg c1, if_neg c2]) hEnd
  | n + 1, i, hi => by
    have ih := cur_l0 hs need hn0 r hEnd n (i + 1) (by omega)
    have hl := hs.len
    have hil : i < L.length := by omega
    have c1 : (i : Int) < (L.length : Int) := Int.ofNat_lt.2 hil
    have c2 : (0 : Int) ≤ (i : Int) := Int.natCast_nonneg i
    have ha := hs.amt i hil
    have e1 : (rd_T25 L i).f0 = am L i := rfl
    have c3 : ¬ am L i < 0 := by omega
    have c4 : ¬ am L i > 1048576 := by omega
    have e2 : sm (i + 1) (am L) = sm i (am L) + am L i := rfl
    have hb0 : 0 ≤ sm i (am L) := sm_nonneg i fun j hj => (hs.amt j (by omega)).1
    have hb1 : sm i (am L) ≤ i * 30 := sm_bound i fun j hj => (hs.amt j (by omega)).2
    have e3 : wrap64 (sm i (am L) + am L i) = sm i (am L) + am L i := w64 (by omega) (by omega)
    refine Ev.succ (fun k => ?_) ih
    rw [executive_Curtail.l0, if_pos c1, if_pos c2, if_pos c1, e1, if_neg c3, if_neg c4, ar2 hil hl, e2, e3]

/-- The rule: what the cuts are. -/
structure Fin (L : List S25) (need : Int) (cuts : List Int) : Prop where
  len : cuts.length = L.length
  low : ∀ i : Nat, i < L.length → 0 ≤ rd cuts i ∧ rd cuts i ≤ am L i
  near : ∀ i : Nat, i < L.length → 0 < asum L (me L i) → rd cuts i * asum L (me L i) - csum L cuts (me L i) * am L i < asum L (me L i) ∧ -(asum L (me L i)) < rd cuts i * asum L (me L i) - csum L cuts (me L i) * am L i
  total : sm L.length (fun i => rd cuts i) = need
  order : ∀ m k, k < m → 0 < csum L cuts m → csum L cuts k = asum L k

theorem sum_out_merit {L : List S25} (f : Int → Int) {m : Int} (h : ¬ ∃ i : Nat, i < L.length ∧ me L i = m) : sm L.length (fun i => if me L i = m then f i else 0) = 0 := by
  refine (sm_congr _ fun i hi => ?_).trans (sm_zero L.length)
  show (if me L i = m then f i else 0) = 0
  rw [if_neg (fun e => h ⟨i, hi, e⟩)]

theorem curtail_ev {L : List S25} (hs : Small L) {need : Int} (hn0 : 0 ≤ need) (hn1 : need ≤ sm L.length (am L)) : ∃ cuts, Ev (fun k => executive_Curtail.f k L need) (cuts, 0) ∧ Fin L need cuts := by
  have hl := hs.len
  have hb : sm L.length (am L) ≤ L.length * 30 := sm_bound _ fun j hj => (hs.amt j hj).2
  have hneed : need ≤ 960 := by omega
  obtain ⟨hM, hmem, hMl⟩ := merits_spec hs
  obtain ⟨z, hz⟩ : ∃ z : List Int, z = List.replicate ((L.length : Int)).toNat 0 := ⟨_, rfl⟩
  have hzl : z.length = L.length := by rw [hz, List.length_replicate]; omega
  have hz0 : ∀ i : Int, rd z i = 0 := fun i => by
    rw [hz]
    unfold rd
    rw [List.getD_eq_getElem?_getD, List.getElem?_replicate]
    split <;> rfl
  have hstart : Inv L need ((merits L).take 0) z need := by
    refine ⟨hzl, fun i _ _ => hz0 i, fun i hi => ?_, fun i hi hp => ?_, ?_, hn0, fun _ m hm => ?_, fun m hm => ?_⟩
    · have := hs.amt i hi
      rw [hz0]
      omega
    · have e : csum L z (me L i) = 0 := by
        refine (sm_congr _ fun j hj => ?_).trans (sm_zero L.length)
        show (if me L j = me L i then rd z j else 0) = 0
        rw [hz0]
        split <;> rfl
      rw [e, hz0, Int.zero_mul, Int.zero_mul]
      omega
    · have e : sm L.length (fun i => rd z i) = 0 := (sm_congr _ fun j _ => hz0 j).trans (sm_zero L.length)
      rw [e]
      omega
    · rw [List.take_zero] at hm
      cases hm
    · rw [List.take_zero] at hm
      cases hm
  obtain ⟨cuts, rest, h1, h2⟩ := cur_l2 hs hneed hM hMl (merits L).length 0 (by omega) z need hstart
  have hfull : (∀ m ∈ merits L, csum L cuts m = asum L m) → ∀ i : Nat, i < L.length → rd cuts i = am L i := fun hf i hi => by
    have hm := hf (me L i) ((hmem _).2 ⟨i, hi, rfl⟩)
    have hd : sm L.length (fun j => (if me L j = me L i then am L j else 0) - (if me L j = me L i then rd cuts j else 0)) = 0 := by
      rw [sm_sub]
      show asum L (me L i) - csum L cuts (me L i) = 0
      omega
    have := sm_eq_zero L.length (f := fun j => (if me L j = me L i then am L j else 0) - (if me L j = me L i then rd cuts j else 0)) (fun j hj => by
      have := h2.low j hj
      show 0 ≤ (if me L j = me L i then am L j else 0) - (if me L j = me L i then rd cuts j else 0)
      split <;> omega) (by omega) i hi
    simp only [if_pos] at this
    omega
  have hrest : rest = 0 := by
    have hr0 := h2.rest0
    have hrE := h2.restE
    by_cases hp : 0 < rest
    · have e : sm L.length (fun i => rd cuts i) = sm L.length (am L) := sm_congr _ fun i hi => hfull (h2.full hp) i hi
      rw [e] at hrE
      omega
    · omega
  refine ⟨cuts, ?_, h2.len, h2.low, h2.near, by have := h2.restE; omega, fun m k hk hp => ?_⟩
  · have c0 : ¬ (L.length : Int) > 32 := by omega
    have hj : Ev (fun k => executive_Curtail.j1 k L need (decide (need > sm L.length (am L)))) (cuts, 0) := by
      have c1 : ¬ need > sm L.length (am L) := by omega
      have c2 : (0 : Int) ≤ (L.length : Int) := Int.natCast_nonneg _
      have c3 : ((L.length : Int)).toNat ≤ 35184372088832 := by omega
      have hl1 := cur_l1 hs need z _ h1 L.length 0 (by omega)
      refine Ev.succ (fun k => ?_) hl1
      rw [decide_eq_false c1, executive_Curtail.j1, if_neg (by decide), if_pos c2, if_pos c3, hz]
      rfl
    have hl0 := cur_l0 hs need hn0 _ hj L.length 0 (by omega)
    refine Ev.congr (fun k => ?_) hl0
    show executive_Curtail.f k L need = _
    unfold executive_Curtail.f
    rw [if_neg c0]
    rfl
  · by_cases hmM : m ∈ merits L
    · by_cases hkM : k ∈ merits L
      · exact h2.order m hmM hp k hkM hk
      · have hk2 : ¬ ∃ i : Nat, i < L.length ∧ me L i = k := fun h => hkM ((hmem k).2 h)
        have a1 : csum L cuts k = 0 := sum_out_merit _ hk2
        have a2 : asum L k = 0 := sum_out_merit _ hk2
        omega
    · have hm2 : ¬ ∃ i : Nat, i < L.length ∧ me L i = m := fun h => hmM ((hmem m).2 h)
      have a1 : csum L cuts m = 0 := sum_out_merit _ hm2
      omega
end Go.Proofs.Fair
